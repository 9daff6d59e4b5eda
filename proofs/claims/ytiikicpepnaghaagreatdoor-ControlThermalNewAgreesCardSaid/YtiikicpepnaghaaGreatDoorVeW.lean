/-
  The abstract evaluator in continuations, over slots as a function; loops and calls without a bound on rounds (definitions, and that it is the evaluator).
-/
import Derived.Test.YtiikicpepnaghaaGreatDoorVeLib
namespace Go.VE

abbrev FEnv := Tmp → AVal
abbrev Res := Option (AVal × Mem)
abbrev Kn := FEnv → Mem → Res

noncomputable def fput (e : FEnv) (d : Option Tmp) (v : AVal) : FEnv :=
  Option.rec (motive := fun _ => FEnv) e (fun i t => Bool.rec (motive := fun _ => AVal) (e t) v (Nat.beq t i)) d

noncomputable def evalF (e : FEnv) (x : Operand) : AVal :=
  Operand.rec (motive := fun _ => AVal) (fun t => e t) (fun v => ofVal v) (fun _ => .undef) (fun f => .func f []) x

section
variable (P : Program)

def partsR (ρ : Operand → AVal) (ps : Array (Nat × Operand)) : List (Nat × AVal) := ps.toList.map fun p => (p.1, ρ p.2)

def evBuildZR (M : Mem) (t : TypeId) (ps : List (Nat × AVal)) (z : AVal) : OpR :=
  match z.solid with
  | true => match P.underlying t with
    | some (.struct fs) => match fieldPlaces P fs with
      | some l => evAgg M (fillV (listAt l) z.cells ps)
      | none => .fail
    | some (.array _ et) => match size? P et with
      | some n => evAgg M (fillV (rowAt n) z.cells ps)
      | none => .fail
    | _ => .fail
  | false => .fail

def evBuildR (M : Mem) (t : TypeId) (ps : List (Nat × AVal)) : OpR :=
  match zero? P t with
  | some z => evBuildZR P M t ps (ofVal z)
  | none => .fail

noncomputable def evBuildSliceR (M : Mem) (t : TypeId) (n : Nat) (ps : List (Nat × AVal)) : OpR :=
  match elemOf P t with
  | some et => match zeroCells P et with
    | some (sz, z) => match Nat.ble (n * sz) (2 ^ 20) with
      | true => evRow M sz n (fillRow sz n z ps)
      | false => .fail
    | none => .fail
  | none => .fail

def evFuncR (ρ : Operand → AVal) (M : Mem) (fn : Fn) (first captured : Array Operand) : OpR :=
  match fn, first.toList with
  | .func f, [] => .val (.func f (captured.toList.map ρ)) M
  | _, _ => .fail

noncomputable def evMakeMapR (ρ : Operand → AVal) (M : Mem) (t : TypeId) : Option Operand → OpR
  | none => .val (.map M.next) (M.alloc (.map []))
  | some x => match mapTypes P t with
    | none => .fail
    | some _ => match ρ x with
      | .int _ _ => .val (.map M.next) (M.alloc (.map []))
      | _ => .fail

noncomputable def evCallOpR (ρ : Operand → AVal) (M : Mem) (c : Call) : OpR :=
  match c.callee with
  | .builtin b => builtin P M b c.argTypes (c.args.toList.map ρ)
  | .value f => evCallee P M (ρ f) (c.args.toList.map ρ)
  | .invoke _ _ => .fail

noncomputable def evOpR (ρ : Operand → AVal) (M : Mem) (o : Op) : OpR :=
  Op.rec (motive := fun _ => OpR)
    (fun x => .val (ρ x) M)
    (fun x => .val (ρ x) M)
    (fun c a b => evPick M (ρ c) (ρ a) (ρ b))
    (fun t => evNew M (zero P t))
    (fun _ x => evNew M (ρ x))
    (fun t ps => evBuildR P M t (partsR ρ ps))
    (fun t n ps => evBuildSliceR P M t n (partsR ρ ps))
    (fun t m k v => evMapUpdate P M t (ρ m) (ρ k) (ρ v))
    (fun t x => evLoad P M t (ρ x))
    (fun t x v => evStore P M t (ρ x) (ρ v))
    (fun _ => .fail)
    (fun _ => .fail)
    (fun x => evNilCheck M (ρ x))
    (fun op t x y _ => evBin P M op t (ρ x) (ρ y))
    (fun op _ x => OpR.ofOpt M (unOp op (ρ x)))
    (fun s d x => evConvert P M s d (ρ x))
    (fun _ _ => .fail)
    (fun t x => evIface P M t (ρ x))
    (fun f a b => evFuncR ρ M f a b)
    (fun t r => evMakeMapR P ρ M t r)
    (fun _ _ => .fail)
    (fun t l c => evMakeSlice P M t (ρ l) (ρ c))
    (fun t x lo hi mx => evSlice P M t (ρ x) (lo.map ρ) (hi.map ρ) (mx.map ρ))
    (fun t x i => evFieldAddr P M t (ρ x) i)
    (fun t x i => evField P M t (ρ x) i)
    (fun t x i => evIndexAddr P M t (ρ x) (ρ i))
    (fun t x i => evIndex P M t (ρ x) (ρ i))
    (fun t x k ok => evLookup P M t (ρ x) (ρ k) ok)
    (fun t m k v => evMapUpdate P M t (ρ m) (ρ k) (ρ v))
    (fun _ _ _ => .fail)
    (fun _ _ _ _ => .fail)
    (fun _ _ => .fail)
    (fun _ _ => .fail)
    (fun _ => .fail)
    (fun _ _ _ _ => .fail)
    (fun x i => evExtract M (ρ x) i)
    (fun c => evCallOpR P ρ M c)
    (fun _ => .fail)
    (fun _ => .fail)
    (fun _ => .fail)
    (fun _ _ => .fail)
    (fun _ _ _ => .fail)
    (fun _ _ => .fail) o

theorem evOp_eq (e : Env) (M : Mem) (o : Oper) : evOp P e M o = evOpR P (evalO e) M o.op := by
  unfold evOp evOpR
  cases o.op with
  | makeMap t r => cases r <;> rfl
  | _ => rfl

noncomputable def guardF (ops : Array Oper) (e : FEnv) (g : Option (Nat × Bool)) : Option Bool :=
  Option.casesOn (motive := fun _ => Option Bool) g (some true)
    (fun p => Option.casesOn (motive := fun _ => Option Bool) (dstOf ops p.1) (some false) (fun t => wantB p.2 (e t)))

noncomputable def callK (k : AVal → Mem → Res) (r : Option (AVal × Mem)) : Res :=
  Option.rec (motive := fun _ => Res) none (fun p => Prod.rec (motive := fun _ => Res) k p) r

noncomputable def onOpK (call : Caller) (M : Mem) (k : AVal → Mem → Res) (r : OpR) : Res :=
  OpR.rec (motive := fun _ => Res) k (fun f args => callK k (call f args M)) none r

def onGuardK (g : Option Bool) (no yes : Res) : Res :=
  match g with
  | some true => yes
  | some false => no
  | none => none

noncomputable def stepK (call : Caller) (M : Mem) (g : Option Bool) (r : OpR) (k : AVal → Mem → Res) : Res :=
  onGuardK g (k skipVal M) (onOpK call M k r)

noncomputable def opsK (call : Caller) (ops : Array Oper) (k : Kn) (l : List Oper) : Kn :=
  List.rec (motive := fun _ => Kn) k (fun o _ ih e M => stepK call M (guardF ops e o.guard) (evOpR P (evalF e) M o.op) (fun v M' => ih (fput e o.dst v) M')) l

structure SeenF where
  i : Nat
  o : Op
  e : FEnv
  v : AVal
  skip : Bool

/-- Whether an operation is known not to be carried out. -/
def skipB (g : Option Bool) : Bool := match g with
  | some false => true
  | _ => false

noncomputable def stillF (M : Mem) (bits : Nat) (l : List SeenF) : Bool :=
  List.rec (motive := fun _ => Bool) true (fun s _ ih => (bits.testBit s.i || (s.skip || sameVal s.v (evOpR P (evalF s.e) M s.o))) && ih) l

def onStillK (b : Bool) (k : Res) : Res :=
  match b with
  | true => k
  | false => none

/-- What follows an operation of a drawn region, by its kind. -/
noncomputable def kindK (kd : Kind) (skip : Bool) (M' : Mem) (v : AVal) (bits i : Nat) (o : Op) (e : FEnv) (rs : List SeenF) (k : List SeenF → Res) : Res :=
  Kind.rec (motive := fun _ => Res) (k rs) (k rs) (k (⟨i, o, e, v, skip⟩ :: rs)) (onStillK (skip || stillF P M' bits rs) (k rs)) kd

noncomputable def drawK (call : Caller) (ops : Array Oper) (bits : List Nat) (k : Kn) (l : List Nat) : List SeenF → Kn :=
  List.rec (motive := fun _ => List SeenF → Kn) (fun _ => k)
    (fun i _ ih rs e M => Option.casesOn (motive := fun _ => Res) ops[i]? none (fun o =>
      stepK call M (guardF ops e o.guard) (evOpR P (evalF e) M o.op)
        (fun v M' => kindK P (kindOf P o) (skipB (guardF ops e o.guard)) M' v (bits.getD i 0) i o.op e rs (fun rs' => ih rs' (fput e o.dst v) M')))) l

noncomputable def regionK (call : Caller) (ops : Array Oper) (draw : Bool) (k : Kn) : Kn :=
  Bool.rec (motive := fun _ => Kn) (opsK P call ops k ops.toList) (drawK P call ops (bitsOf ops) k (orderOf P ops) []) draw

def condK (v : AVal) (x y : Res) : Res :=
  match v with
  | .bool true => x
  | .bool false => y
  | _ => none

noncomputable def lpN (F : Kn → Kn) (n : Nat) : Kn := Nat.rec (motive := fun _ => Kn) (fun _ _ => none) (fun _ ih => F ih) n

open Classical in
noncomputable def lpW (F : Kn → Kn) : Kn := fun e M =>
  if h : ∃ n r, lpN F n e M = some r then lpN F h.choose e M else none

noncomputable def blockX (id : Nat) (kn : Kn) (kx : Nat → Kn) : Nat → Kn := fun j e M => Bool.rec (motive := fun _ => Res) (kx j e M) (kn e M) (Nat.beq j id)

noncomputable def codeK (call : Caller) (c : Code) : Kn → (Nat → Kn) → Kn → Kn :=
  Code.rec (motive := fun _ => Kn → (Nat → Kn) → Kn → Kn)
    (fun kn _ _ => kn)
    (fun _ ops draw kn _ _ => regionK P call ops draw kn)
    (fun _ _ iha ihb kn kx kr => iha (ihb kn kx kr) kx kr)
    (fun x _ _ iha ihb kn kx kr e M => condK (evalF e x) (iha kn kx kr e M) (ihb kn kx kr e M))
    (fun id _ ih kn kx kr => ih kn (blockX id kn kx) kr)
    (fun _ ih _ kx kr => lpW (fun self => ih self kx kr))
    (fun _ _ _ _ _ _ _ _ _ _ _ => none)
    (fun id _ kx _ => kx id)
    (fun _ _ _ _ _ _ _ => none)
    (fun _ kn _ _ => kn)
    (fun _ _ _ _ _ _ => none)
    (fun _ _ kr => kr)
    (fun _ _ _ _ _ _ => none) c

noncomputable def resultF (e : FEnv) (M : Mem) : ResultVar → Option AVal
  | .tmp t => some (e t)
  | .cell a t => match e a with
    | .ptr x => loadVar P M t x
    | _ => none

noncomputable def resultsF (e : FEnv) (M : Mem) : List ResultVar → Option (List AVal)
  | [] => some []
  | r :: rs => match resultF P e M r with
    | some v => (resultsF e M rs).map (v :: ·)
    | none => none

noncomputable def retK (rs : Array ResultVar) : Kn := fun e M => ((resultsF P e M rs.toList).map tupleOf).map (·, M)

noncomputable def noneX : Nat → Kn := fun _ _ _ => none

noncomputable def argsF (l : List AVal) : FEnv := fun t => (l[t]?).getD .undef

noncomputable def runFuncK (call : Caller) (f : FuncId) (args : List AVal) (M : Mem) : Res :=
  match P.funcs[f]? with
  | some fn => match fn.body with
    | some c => codeK P call c (retK P fn.results) noneX (retK P fn.results) (argsF args) M
    | none => none
  | none => none

noncomputable def stepCallK (L : Lib) (ih : Caller) (f : FuncId) (args : List AVal) (M : Mem) : Res :=
  match L f with
  | some g => g args M
  | none => runFuncK P ih f args M

noncomputable def callN (L : Lib) (n : Nat) : Caller :=
  Nat.rec (motive := fun _ => Caller) (fun _ _ _ => none) (fun _ ih f args M => stepCallK P L ih f args M) n

open Classical in
noncomputable def callW (L : Lib) : Caller := fun f args M =>
  if h : ∃ n r, callN P L n f args M = some r then callN P L h.choose f args M else none

end

/-! It is the evaluator -/

section
variable {P : Program}

theorem fput_at (e : Env) (d : Option Tmp) (v : AVal) : (fun t => Env.at (e.put d v) t) = fput (fun t => Env.at e t) d v := by
  funext t
  cases d with
  | none => rfl
  | some i =>
    show Env.at (e.put (some i) v) t = Bool.rec (motive := fun _ => AVal) (Env.at e t) v (Nat.beq t i)
    rw [Env.at_put]
    cases h : Nat.beq t i with
    | true => rw [if_pos (Nat.eq_of_beq_eq_true h)]
    | false => rw [if_neg (Nat.ne_of_beq_eq_false h)]

theorem evalF_at (e : Env) : evalF (fun t => Env.at e t) = evalO e := by
  funext x
  cases x <;> rfl

theorem guardF_at (ops : Array Oper) (e : Env) (g : Option (Nat × Bool)) : guardF ops (fun t => Env.at e t) g = guardB ops e g := by
  cases g <;> rfl

noncomputable def elimOut (kn : Kn) (kx : Nat → Kn) (kr : Kn) : Out → Res
  | .normal e M => kn (fun t => Env.at e t) M
  | .exit id e M => kx id (fun t => Env.at e t) M
  | .ret e M => kr (fun t => Env.at e t) M
  | .fail => none

theorem opsK_eq (call : Caller) (ops : Array Oper) (kn : Kn) (kx : Nat → Kn) (kr : Kn) : ∀ (l : List Oper) (e : Env) (M : Mem),
    opsK P call ops kn l (fun t => Env.at e t) M = elimOut kn kx kr (evOps P call ops l e M) := by
  intro l
  induction l with
  | nil => intro e M; rfl
  | cons o l ih =>
    intro e M
    rw [evOps_cons]
    unfold stepOp
    show stepK call M (guardF ops (fun t => Env.at e t) o.guard) (evOpR P (evalF (fun t => Env.at e t)) M o.op) (fun v M' => opsK P call ops kn l (fput (fun t => Env.at e t) o.dst v) M') = _
    rw [guardF_at, evalF_at, ← evOp_eq]
    unfold stepK
    cases guardB ops e o.guard with
    | none => rfl
    | some b =>
      cases b with
      | false =>
        show opsK P call ops kn l (fput (fun t => Env.at e t) o.dst skipVal) M = elimOut kn kx kr (evOps P call ops l (e.put o.dst skipVal) M)
        rw [← fput_at, ih]
      | true =>
        show onOpK call M _ (evOp P e M o) = elimOut kn kx kr (onOp call M _ (evOp P e M o))
        cases evOp P e M o with
        | val v M' =>
          show opsK P call ops kn l (fput (fun t => Env.at e t) o.dst v) M' = elimOut kn kx kr (evOps P call ops l (e.put o.dst v) M')
          rw [← fput_at, ih]
        | call f args =>
          simp only [onOpK, onOp]
          cases call f args M with
          | none => rfl
          | some q =>
            obtain ⟨v, M'⟩ := q
            show opsK P call ops kn l (fput (fun t => Env.at e t) o.dst v) M' = elimOut kn kx kr (evOps P call ops l (e.put o.dst v) M')
            rw [← fput_at, ih]
        | fail => rfl

noncomputable def seenOf (s : Seen) : SeenF := ⟨s.i, s.o.op, fun t => Env.at s.e t, s.v, false⟩

/-- What was seen, but for what was not carried out. -/
inductive SeenRel : List SeenF → List Seen → Prop where
  | nil : SeenRel [] []
  | cons {l r} (s : Seen) : SeenRel l r → SeenRel (seenOf s :: l) (s :: r)
  | skip {l r} (s : SeenF) : s.skip = true → SeenRel l r → SeenRel (s :: l) r

theorem stillF_eq (M : Mem) (bits : Nat) {l : List SeenF} {r : List Seen} (h : SeenRel l r) : stillF P M bits l = stillB P M bits r := by
  induction h with
  | nil => rfl
  | @cons l r s _ ih =>
    show ((bits.testBit s.i || (false || sameVal s.v (evOpR P (evalF (fun t => Env.at s.e t)) M s.o.op))) && stillF P M bits l) = _
    rw [ih, evalF_at, ← evOp_eq, Bool.false_or]
    cases h : (bits.testBit s.i || sameVal s.v (evOp P s.e M s.o)) <;> simp [stillB, h]
  | @skip l r s hs _ ih =>
    show ((bits.testBit s.i || (s.skip || sameVal s.v (evOpR P (evalF s.e) M s.o))) && stillF P M bits l) = _
    rw [ih, hs]; simp

theorem drawK_eq (call : Caller) (ops : Array Oper) (bits : List Nat) (kn : Kn) (kx : Nat → Kn) (kr : Kn) : ∀ (l : List Nat) (rsF : List SeenF) (rs : List Seen), SeenRel rsF rs → ∀ (e : Env) (M : Mem),
    drawK P call ops bits kn l rsF (fun t => Env.at e t) M = elimOut kn kx kr (evDraw P call ops bits l rs e M) := by
  intro l
  induction l with
  | nil => intro rsF rs _ e M; rfl
  | cons i l ih =>
    intro rsF rs hrs e M
    rw [evDraw_cons]
    show Option.casesOn (motive := fun _ => Res) ops[i]? none (fun o =>
      stepK call M (guardF ops (fun t => Env.at e t) o.guard) (evOpR P (evalF (fun t => Env.at e t)) M o.op)
        (fun v M' => kindK P (kindOf P o) (skipB (guardF ops (fun t => Env.at e t) o.guard)) M' v (bits.getD i 0) i o.op (fun t => Env.at e t) rsF (fun rs' => drawK P call ops bits kn l rs' (fput (fun t => Env.at e t) o.dst v) M'))) = _
    cases ops[i]? with
    | none => rfl
    | some o =>
      show stepK call M (guardF ops (fun t => Env.at e t) o.guard) _ _ = elimOut kn kx kr (stepDraw P call ops bits i o (evDraw P call ops bits l) rs e M)
      rw [guardF_at, evalF_at, ← evOp_eq]
      unfold stepK stepDraw
      have hk : ∀ (v : AVal) (M' : Mem), kindK P (kindOf P o) false M' v (bits.getD i 0) i o.op (fun t => Env.at e t) rsF (fun rs' => drawK P call ops bits kn l rs' (fput (fun t => Env.at e t) o.dst v) M') =
          elimOut kn kx kr (match kindOf P o with
            | .act => onStill (stillB P M' (bits.getD i 0) rs) (evDraw P call ops bits l rs (e.put o.dst v) M')
            | .read => evDraw P call ops bits l (⟨i, o, e, v⟩ :: rs) (e.put o.dst v) M'
            | _ => evDraw P call ops bits l rs (e.put o.dst v) M') := by
        intro v M'
        rw [← fput_at]
        cases hkd : kindOf P o with
        | pure => exact ih _ _ hrs _ _
        | alloc => exact ih _ _ hrs _ _
        | read => exact ih _ _ (.cons ⟨i, o, e, v⟩ hrs) _ _
        | act =>
          show onStillK (false || stillF P M' (bits.getD i 0) rsF) (drawK P call ops bits kn l rsF _ M') = elimOut kn kx kr (onStill (stillB P M' (bits.getD i 0) rs) _)
          rw [stillF_eq _ _ hrs, Bool.false_or]
          cases stillB P M' (bits.getD i 0) rs with
          | true => exact ih _ _ hrs _ _
          | false => rfl
      cases guardB ops e o.guard with
      | none => rfl
      | some b =>
        cases b with
        | false =>
          show kindK P (kindOf P o) true M skipVal (bits.getD i 0) i o.op (fun t => Env.at e t) rsF (fun rs' => drawK P call ops bits kn l rs' (fput (fun t => Env.at e t) o.dst skipVal) M) = elimOut kn kx kr (evDraw P call ops bits l rs (e.put o.dst skipVal) M)
          rw [← fput_at]
          cases kindOf P o with
          | pure => exact ih _ _ hrs _ _
          | alloc => exact ih _ _ hrs _ _
          | read => exact ih _ _ (.skip _ rfl hrs) _ _
          | act => exact ih _ _ hrs _ _
        | true =>
          show onOpK call M _ (evOp P e M o) = elimOut kn kx kr (onOp call M _ (evOp P e M o))
          cases evOp P e M o with
          | val v M' => exact hk v M'
          | call f args =>
            simp only [onOpK, onOp]
            cases call f args M with
            | none => rfl
            | some q =>
              obtain ⟨v, M'⟩ := q
              exact hk v M'
          | fail => rfl

theorem lpW_inv {F : Kn → Kn} {e : FEnv} {M : Mem} {r : AVal × Mem} (h : lpW F e M = some r) : ∃ n, lpN F n e M = some r := by
  unfold lpW at h
  split at h
  · exact ⟨_, h⟩
  · cases h

/-- What the evaluator in continuations answers, the evaluator comes to, with enough rounds. -/
theorem codeK_ev {call : Caller} : ∀ (c : Code) (kn : Kn) (kx : Nat → Kn) (kr : Kn) (e : Env) (M : Mem) (r : AVal × Mem), codeK P call c kn kx kr (fun t => Env.at e t) M = some r →
    ∃ n out, (∀ n', n ≤ n' → evCode P call n' c e M = out) ∧ elimOut kn kx kr out = some r := by
  have pos : ∀ {n n' : Nat}, n + 1 ≤ n' → ∃ k, n' = k + 1 ∧ n ≤ k := fun {n n'} h => ⟨n' - 1, by omega, by omega⟩
  intro c
  induction c with
  | skip =>
    intro kn kx kr e M r h
    exact ⟨1, .normal e M, fun n' hn => by obtain ⟨k, rfl, _⟩ := pos hn; rfl, h⟩
  | label _ =>
    intro kn kx kr e M r h
    exact ⟨1, .normal e M, fun n' hn => by obtain ⟨k, rfl, _⟩ := pos hn; rfl, h⟩
  | ret =>
    intro kn kx kr e M r h
    exact ⟨1, .ret e M, fun n' hn => by obtain ⟨k, rfl, _⟩ := pos hn; rfl, h⟩
  | exit id =>
    intro kn kx kr e M r h
    exact ⟨1, .exit id e M, fun n' hn => by obtain ⟨k, rfl, _⟩ := pos hn; rfl, h⟩
  | region id ops draw =>
    intro kn kx kr e M r h
    refine ⟨1, evRegion P call ops draw e M, fun n' hn => by obtain ⟨k, rfl, _⟩ := pos hn; rfl, ?_⟩
    replace h : regionK P call ops draw kn (fun t => Env.at e t) M = some r := h
    cases draw with
    | false => rw [← h]; exact (opsK_eq call ops kn kx kr ops.toList e M).symm
    | true => rw [← h]; exact (drawK_eq call ops (bitsOf ops) kn kx kr (orderOf P ops) [] [] .nil e M).symm
  | seq a b iha ihb =>
    intro kn kx kr e M r h
    obtain ⟨n, out, h1, h2⟩ := iha (codeK P call b kn kx kr) kx kr e M r h
    cases out with
    | normal e1 M1 =>
      obtain ⟨n2, out2, h3, h4⟩ := ihb kn kx kr e1 M1 r h2
      refine ⟨max n n2 + 1, out2, fun n' hn => ?_, h4⟩
      obtain ⟨k, rfl, hk⟩ := pos hn
      show thenOut (evCode P call k b) (evCode P call k a e M) = _
      rw [h1 k (by omega)]
      exact h3 k (by omega)
    | exit j e1 M1 =>
      refine ⟨n + 1, .exit j e1 M1, fun n' hn => ?_, h2⟩
      obtain ⟨k, rfl, hk⟩ := pos hn
      show thenOut (evCode P call k b) (evCode P call k a e M) = _
      rw [h1 k hk]; rfl
    | ret e1 M1 =>
      refine ⟨n + 1, .ret e1 M1, fun n' hn => ?_, h2⟩
      obtain ⟨k, rfl, hk⟩ := pos hn
      show thenOut (evCode P call k b) (evCode P call k a e M) = _
      rw [h1 k hk]; rfl
    | fail => cases h2
  | cond x a b iha ihb =>
    intro kn kx kr e M r h
    replace h : condK (evalF (fun t => Env.at e t) x) (codeK P call a kn kx kr (fun t => Env.at e t) M) (codeK P call b kn kx kr (fun t => Env.at e t) M) = some r := h
    rw [evalF_at] at h
    unfold condK at h
    split at h
    · rename_i heq
      obtain ⟨n, out, h1, h2⟩ := iha kn kx kr e M r h
      refine ⟨n + 1, out, fun n' hn => ?_, h2⟩
      obtain ⟨k, rfl, hk⟩ := pos hn
      show condOut (evalO e x) (evCode P call k a e M) (evCode P call k b e M) = _
      rw [heq]; exact h1 k hk
    · rename_i heq
      obtain ⟨n, out, h1, h2⟩ := ihb kn kx kr e M r h
      refine ⟨n + 1, out, fun n' hn => ?_, h2⟩
      obtain ⟨k, rfl, hk⟩ := pos hn
      show condOut (evalO e x) (evCode P call k a e M) (evCode P call k b e M) = _
      rw [heq]; exact h1 k hk
    · cases h
  | block id b ih =>
    intro kn kx kr e M r h
    obtain ⟨n, out, h1, h2⟩ := ih kn (blockX id kn kx) kr e M r h
    have hb : ∀ k, n ≤ k → evCode P call (k + 1) (.block id b) e M = blockOut id out := fun k hk => by
      show blockOut id (evCode P call k b e M) = _
      rw [h1 k hk]
    refine ⟨n + 1, blockOut id out, fun n' hn => ?_, ?_⟩
    · obtain ⟨k, rfl, hk⟩ := pos hn
      exact hb k hk
    · cases out with
      | normal e1 M1 => exact h2
      | exit j e1 M1 =>
        replace h2 : (Bool.rec (motive := fun _ => Res) (kx j (fun t => Env.at e1 t) M1) (kn (fun t => Env.at e1 t) M1) (Nat.beq j id) : Res) = some r := h2
        show elimOut kn kx kr (Bool.casesOn (motive := fun _ => Out) (Nat.beq j id) (.exit j e1 M1) (.normal e1 M1)) = some r
        cases hj : Nat.beq j id with
        | true => rw [hj] at h2; exact h2
        | false => rw [hj] at h2; exact h2
      | ret e1 M1 => exact h2
      | fail => cases h2
  | loop b ih =>
    intro kn kx kr e M r h
    obtain ⟨k, hk⟩ := lpW_inv h
    clear h
    induction k generalizing e M with
    | zero => cases hk
    | succ k ihk =>
      obtain ⟨n, out, h1, h2⟩ := ih (lpN (fun self => codeK P call b self kx kr) k) kx kr e M r hk
      cases out with
      | normal e1 M1 =>
        obtain ⟨n2, out2, h3, h4⟩ := ihk e1 M1 h2
        refine ⟨max n n2 + 1, out2, fun n' hn => ?_, h4⟩
        obtain ⟨k', rfl, hk'⟩ := pos hn
        show thenOut (evCode P call k' (.loop b)) (evCode P call k' b e M) = _
        rw [h1 k' (by omega)]
        exact h3 k' (by omega)
      | exit j e1 M1 =>
        refine ⟨n + 1, .exit j e1 M1, fun n' hn => ?_, h2⟩
        obtain ⟨k', rfl, hk'⟩ := pos hn
        show thenOut (evCode P call k' (.loop b)) (evCode P call k' b e M) = _
        rw [h1 k' hk']; rfl
      | ret e1 M1 =>
        refine ⟨n + 1, .ret e1 M1, fun n' hn => ?_, h2⟩
        obtain ⟨k', rfl, hk'⟩ := pos hn
        show thenOut (evCode P call k' (.loop b)) (evCode P call k' b e M) = _
        rw [h1 k' hk']; rfl
      | fail => cases h2
  | rangeFunc _ _ _ _ => intro kn kx kr e M r h; cases h
  | scope _ _ => intro kn kx kr e M r h; cases h
  | goto _ => intro kn kx kr e M r h; cases h
  | refuse _ => intro kn kx kr e M r h; cases h

theorem resultsF_at (e : Env) (M : Mem) : ∀ rs : List ResultVar, resultsF P (fun t => Env.at e t) M rs = resultsV P e M rs := by
  intro rs
  induction rs with
  | nil => rfl
  | cons r rs ih =>
    unfold resultsF resultsV
    rw [ih]
    cases r <;> rfl

theorem argsF_at (args : List AVal) : (fun t => Env.at (Env.ofArgs args 0 .leaf) t) = argsF args := by
  funext t
  rw [Env.at_ofArgs]
  unfold argsF
  by_cases ht : t < args.length
  · rw [if_pos ⟨Nat.zero_le _, by rw [Nat.zero_add]; exact ht⟩, Nat.sub_zero]
  · rw [if_neg (fun h => ht (by rw [← Nat.zero_add args.length]; exact h.2)), Env.at_leaf]
    rw [List.getElem?_eq_none (Nat.le_of_not_lt ht)]; rfl

theorem runFuncK_ev {call : Caller} {f : FuncId} {args : List AVal} {M : Mem} {r : AVal × Mem} (h : runFuncK P call f args M = some r) : ∃ n, runFunc P n call f args M = some r := by
  unfold runFuncK at h
  unfold runFunc
  split at h
  · rename_i fn hf
    split at h
    · rename_i c hb
      rw [hf]
      rw [← argsF_at] at h
      obtain ⟨n, out, h1, h2⟩ := codeK_ev c _ _ _ _ _ _ h
      refine ⟨n, ?_⟩
      simp only [hb]
      rw [h1 n (Nat.le_refl n)]
      cases out with
      | normal e1 M1 =>
        replace h2 : ((resultsF P (fun t => Env.at e1 t) M1 fn.results.toList).map tupleOf).map (·, M1) = some r := h2
        rw [resultsF_at] at h2
        exact h2
      | exit j e1 M1 => cases h2
      | ret e1 M1 =>
        replace h2 : ((resultsF P (fun t => Env.at e1 t) M1 fn.results.toList).map tupleOf).map (·, M1) = some r := h2
        rw [resultsF_at] at h2
        exact h2
      | fail => cases h2
    · cases h
  · cases h

theorem callN_ok (hp : progOk P = true) {L : Lib} (hL : LibOk P L) : ∀ n, CallOk P (callN P L n) := by
  have hdraw : DrawSound P := drawSound (by unfold progOk at hp; simp only [Bool.and_eq_true] at hp; exact hp.1)
  intro n
  induction n with
  | zero => intro f args M v M' h; cases h
  | succ n ih =>
    intro f args M v M' h
    replace h : stepCallK P L (callN P L n) f args M = some (v, M') := h
    unfold stepCallK at h
    split at h
    · rename_i g hg
      exact ⟨(hL f g hg).1, (hL f g hg).2 args M v M' h⟩
    · obtain ⟨k, hk⟩ := runFuncK_ev h
      exact runFunc_calls hdraw hp ih hk

theorem callW_inv {L : Lib} {f : FuncId} {args : List AVal} {M : Mem} {r : AVal × Mem} (h : callW P L f args M = some r) : ∃ n, callN P L n f args M = some r := by
  unfold callW at h
  split at h
  · exact ⟨_, h⟩
  · cases h

/-- What is answered without a bound holds in the model. -/
theorem callW_ok (hp : progOk P = true) {L : Lib} (hL : LibOk P L) : CallOk P (callW P L) := by
  intro f args M v M' h
  obtain ⟨n, hn⟩ := callW_inv h
  exact callN_ok hp hL n f args M v M' hn

end
end Go.VE
