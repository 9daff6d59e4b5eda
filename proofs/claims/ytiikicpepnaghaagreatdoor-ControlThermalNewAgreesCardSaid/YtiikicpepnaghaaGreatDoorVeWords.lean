/-
  Words for rewriting the evaluator in continuations.
-/
import Derived.Test.YtiikicpepnaghaaGreatDoorVeFix
namespace Go.VE

section
variable {P : Program} {C : Caller} {M M' : Mem} {k : AVal → Mem → Res} {v x y : AVal}

@[simp] theorem onOpK_val : onOpK C M k (.val v M') = k v M' := Eq.trans rfl rfl
@[simp] theorem onOpK_call {f : FuncId} {args : List AVal} : onOpK C M k (.call f args) = callK k (C f args M) := Eq.trans rfl rfl
@[simp] theorem onOpK_fail : onOpK C M k .fail = none := Eq.trans rfl rfl
@[simp] theorem callK_some : callK k (some (v, M')) = k v M' := Eq.trans rfl rfl
@[simp] theorem callK_none : callK k none = none := Eq.trans rfl rfl
@[simp] theorem stepK_true {r : OpR} : stepK C M (some true) r k = onOpK C M k r := Eq.trans rfl rfl
@[simp] theorem stepK_false {r : OpR} : stepK C M (some false) r k = k skipVal M := Eq.trans rfl rfl
@[simp] theorem onStillK_true {r : Res} : onStillK true r = r := Eq.trans rfl rfl
@[simp] theorem condK_true {a b : Res} : condK (.bool true) a b = a := Eq.trans rfl rfl
@[simp] theorem condK_false {a b : Res} : condK (.bool false) a b = b := Eq.trans rfl rfl
@[simp] theorem wantB_bool {w b : Bool} : wantB w (.bool b) = some (b == w) := Eq.trans rfl rfl
@[simp] theorem skipB_true : skipB (some true) = false := Eq.trans rfl rfl
@[simp] theorem skipB_false : skipB (some false) = true := Eq.trans rfl rfl
@[simp] theorem ofOpt_some : OpR.ofOpt M (some v) = .val v M := Eq.trans rfl rfl
@[simp] theorem ofOpt_none : OpR.ofOpt M none = .fail := Eq.trans rfl rfl
@[simp] theorem ofMem_some : OpR.ofMem (some M) = .val (.tuple []) M := Eq.trans rfl rfl

@[simp] theorem fput_some (e : FEnv) (i : Tmp) (v : AVal) (t : Tmp) : fput e (some i) v t = if t = i then v else e t := by
  show Bool.rec (motive := fun _ => AVal) (e t) v (Nat.beq t i) = _
  cases h : Nat.beq t i with
  | true => rw [if_pos (Nat.eq_of_beq_eq_true h)]
  | false => rw [if_neg (Nat.ne_of_beq_eq_false h)]

theorem argsF_get (l : List AVal) (t : Tmp) : argsF l t = (l[t]?).getD .undef := Eq.trans rfl rfl

@[simp] theorem evExtract_tuple (vs : List AVal) (i : Nat) : evExtract M (.tuple vs) i = OpR.ofOpt M vs[i]? := Eq.trans rfl rfl
@[simp] theorem evPick_true {a b : AVal} : evPick M (.bool true) a b = .val a M := Eq.trans rfl rfl
@[simp] theorem evPick_false {a b : AVal} : evPick M (.bool false) a b = .val b M := Eq.trans rfl rfl

/-! Whole numbers -/

section
variable {t : TypeId} {a b : Int}
theorem bin_int {op : BinOp} {q : IntKind} (h : (match op with | .shl | .shr => false | _ => true) = true) : evBin P M op t (.int q a) (.int q b) = OpR.ofOpt M (binInt op q a b) := by
  unfold evBin binOp
  cases op <;> simp at h ⊢
@[simp] theorem bin_add {q : IntKind} : evBin P M .add t (.int q a) (.int q b) = .val (.int q (q.wrap (a + b))) M := by rw [bin_int rfl]; rfl
@[simp] theorem bin_sub {q : IntKind} : evBin P M .sub t (.int q a) (.int q b) = .val (.int q (q.wrap (a - b))) M := by rw [bin_int rfl]; rfl
@[simp] theorem bin_mul {q : IntKind} : evBin P M .mul t (.int q a) (.int q b) = .val (.int q (q.wrap (a * b))) M := by rw [bin_int rfl]; rfl
theorem bin_quo {q : IntKind} (h : b ≠ 0) : evBin P M .quo t (.int q a) (.int q b) = .val (.int q (q.wrap (a.tdiv b))) M := by rw [bin_int rfl]; simp [binInt, h]
theorem bin_rem {q : IntKind} (h : b ≠ 0) : evBin P M .rem t (.int q a) (.int q b) = .val (.int q (a.tmod b)) M := by rw [bin_int rfl]; simp [binInt, h]
@[simp] theorem bin_eql {q : IntKind} : evBin P M .eql t (.int q a) (.int q b) = .val (.bool (a == b)) M := by rw [bin_int rfl]; rfl
@[simp] theorem bin_neq {q : IntKind} : evBin P M .neq t (.int q a) (.int q b) = .val (.bool (a != b)) M := by rw [bin_int rfl]; rfl
@[simp] theorem bin_lss {q : IntKind} : evBin P M .lss t (.int q a) (.int q b) = .val (.bool (decide (a < b))) M := by rw [bin_int rfl]; rfl
@[simp] theorem bin_leq {q : IntKind} : evBin P M .leq t (.int q a) (.int q b) = .val (.bool (decide (a ≤ b))) M := by rw [bin_int rfl]; rfl
@[simp] theorem bin_gtr {q : IntKind} : evBin P M .gtr t (.int q a) (.int q b) = .val (.bool (decide (a > b))) M := by rw [bin_int rfl]; rfl
@[simp] theorem bin_geq {q : IntKind} : evBin P M .geq t (.int q a) (.int q b) = .val (.bool (decide (a ≥ b))) M := by rw [bin_int rfl]; rfl
end

@[simp] theorem un_not {b : Bool} : unOp .not (.bool b) = some (.bool !b) := Eq.trans rfl rfl

theorem bin_bool_neq {t : TypeId} (ht : P.underlying t = some .bool) {a b : Bool} : evBin P M .neq t (.bool a) (.bool b) = .val (.bool (a != b)) M := by
  unfold evBin binOp eqVal; simp only [ht]; cases a <;> cases b <;> rfl
theorem bin_bool_eql {t : TypeId} (ht : P.underlying t = some .bool) {a b : Bool} : evBin P M .eql t (.bool a) (.bool b) = .val (.bool (a == b)) M := by
  unfold evBin binOp eqVal; simp only [ht]; cases a <;> cases b <;> rfl

theorem conv_int {s d : TypeId} {q r : IntKind} {a : Int} {sd : TypeDesc} (hs : P.underlying s = some sd) (hd : P.underlying d = some (.int q)) : evConvert P M s d (.int r a) = .val (.int q (q.wrap a)) M := by
  unfold evConvert; simp only [hs, hd]

/-! Memory -/

attribute [simp] Mem.get_set Mem.get_alloc Mem.next_set Mem.next_alloc

theorem evNew_one {v : AVal} (hs : v.solid = true) : evNew M v = .val (.ptr ⟨M.next, 0, 0, v.cells.length⟩) (M.alloc (.cells v.cells 0 0)) := by
  unfold evNew; rw [hs]

theorem overL_one (off : Nat) (cs : List AVal) (v : AVal) (h : off < cs.length) : overL off cs [v] = cs.set off v := by
  induction off generalizing cs with
  | zero =>
    cases cs with
    | nil => cases h
    | cons c cs => show appL [v] (dropL (lenL [v]) (c :: cs)) = _; rw [appL_eq, dropL_eq]; rfl
  | succ off ih =>
    cases cs with
    | nil => cases h
    | cons c cs => show c :: overL off cs [v] = _; rw [ih cs (by simpa using h)]; rfl

theorem loadCells_of {a : AAddr} {n : Nat} {cs : List AVal} {ep lo : Nat} (hg : M.get a.id = some (.cells cs ep lo)) (h1 : lo ≤ a.ep) (h2 : a.off + n ≤ a.lim) : loadCells M a n = some ((cs.drop a.off).take n) := by
  unfold loadCells
  rw [hg]
  have e1 : Nat.ble lo a.ep = true := Nat.ble_eq_true_of_le h1
  have e2 : Nat.ble (a.off + n) a.lim = true := Nat.ble_eq_true_of_le h2
  simp only [e1, e2, takeL_eq, dropL_eq]

/-- A value of one cell is read. -/
theorem load_one {t : TypeId} (ht : agg? P t = some false) {a : AAddr} {cs : List AVal} {ep lo : Nat} (hg : M.get a.id = some (.cells cs ep lo)) (h1 : lo ≤ a.ep) (h2 : a.off + 1 ≤ a.lim) {v : AVal} (hv : cs[a.off]? = some v) :
    evLoad P M t (.ptr a) = .val v M := by
  unfold evLoad loadVar
  simp only [ht, loadCells_of hg h1 h2]
  have : (cs.drop a.off).take 1 = [v] := by
    have hl : a.off < cs.length := by
      rcases Nat.lt_or_ge a.off cs.length with h | h
      · exact h
      · rw [List.getElem?_eq_none h] at hv; cases hv
    rw [List.drop_eq_getElem_cons hl]
    have : cs[a.off] = v := by rw [List.getElem?_eq_getElem hl] at hv; exact Option.some.inj hv
    rw [this]; rfl
  rw [this]; rfl

/-- A value of many cells is read. -/
theorem load_agg {t : TypeId} (ht : agg? P t = some true) {n : Nat} (hn : size? P t = some n) {a : AAddr} {cs : List AVal} {ep lo : Nat} (hg : M.get a.id = some (.cells cs ep lo)) (h1 : lo ≤ a.ep) (h2 : a.off + n ≤ a.lim) :
    evLoad P M t (.ptr a) = .val (.agg ((cs.drop a.off).take n)) M := by
  unfold evLoad loadVar
  simp only [ht, hn, loadCells_of hg h1 h2]; rfl

/-- A value of one cell is written. -/
theorem store_one {t : TypeId} (ht : size? P t = some 1) {a : AAddr} {cs : List AVal} {ep lo : Nat} (hg : M.get a.id = some (.cells cs ep lo)) (h1 : a.ep = ep) (h2 : a.off + 1 ≤ a.lim) {v : AVal} (hs : v.solid = true) (hc : v.cells = [v]) (hl : a.off < cs.length) :
    evStore P M t (.ptr a) v = .val (.tuple []) (M.set a.id (.cells (cs.set a.off v) ep ep)) := by
  unfold evStore storeVar
  simp only [hs, ht, hc]
  have e0 : Nat.beq [v].length 1 = true := rfl
  simp only [e0]
  unfold storeCells
  rw [hg]
  have e1 : Nat.beq a.ep ep = true := by rw [h1]; exact Nat.beq_refl ep
  have e2 : Nat.ble (a.off + [v].length) a.lim = true := Nat.ble_eq_true_of_le h2
  simp only [e1, e2, overL_one _ _ _ hl]; rfl

end
end Go.VE
