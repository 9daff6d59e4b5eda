/-
  The abstract evaluator: what an abstract memory says of a world.
-/
import Derived.Test.YtiikicpepnaghaaGreatDoorVeDef
import Derived.Laws.AppendOwn
namespace Go.VE

/-! Tries -/

section
variable {α : Type}

theorem Tr.getP_leaf : ∀ p : Pth, Tr.getP p (.leaf : Tr α) = none
  | .here => rfl
  | .left p => Tr.getP_leaf p
  | .right p => Tr.getP_leaf p

theorem Tr.getP_updP [DecidableEq Pth] : ∀ (p : Pth) (t : Tr α) (q : Pth) (a : α), Tr.getP q (Tr.updP p t a) = if q = p then some a else Tr.getP q t
  | .here, .leaf, .here, a => by rw [if_pos rfl]; rfl
  | .here, .leaf, .left q, a => by rw [if_neg (by intro h; cases h)]; rfl
  | .here, .leaf, .right q, a => by rw [if_neg (by intro h; cases h)]; rfl
  | .here, .node v l r, .here, a => by rw [if_pos rfl]; rfl
  | .here, .node v l r, .left q, a => by rw [if_neg (by intro h; cases h)]; rfl
  | .here, .node v l r, .right q, a => by rw [if_neg (by intro h; cases h)]; rfl
  | .left p, .leaf, .here, a => by rw [if_neg (by intro h; cases h)]; rfl
  | .left p, .leaf, .left q, a => by
    show Tr.getP q (Tr.updP p .leaf a) = _
    rw [Tr.getP_updP p .leaf q a]
    by_cases h : q = p
    · rw [if_pos h, if_pos (by rw [h])]
    · rw [if_neg h, if_neg (by intro hh; cases hh; exact h rfl)]; rfl
  | .left p, .leaf, .right q, a => by rw [if_neg (by intro h; cases h)]; rfl
  | .left p, .node v l r, .here, a => by rw [if_neg (by intro h; cases h)]; rfl
  | .left p, .node v l r, .left q, a => by
    show Tr.getP q (Tr.updP p l a) = _
    rw [Tr.getP_updP p l q a]
    by_cases h : q = p
    · rw [if_pos h, if_pos (by rw [h])]
    · rw [if_neg h, if_neg (by intro hh; cases hh; exact h rfl)]; rfl
  | .left p, .node v l r, .right q, a => by rw [if_neg (by intro h; cases h)]; rfl
  | .right p, .leaf, .here, a => by rw [if_neg (by intro h; cases h)]; rfl
  | .right p, .leaf, .right q, a => by
    show Tr.getP q (Tr.updP p .leaf a) = _
    rw [Tr.getP_updP p .leaf q a]
    by_cases h : q = p
    · rw [if_pos h, if_pos (by rw [h])]
    · rw [if_neg h, if_neg (by intro hh; cases hh; exact h rfl)]; rfl
  | .right p, .leaf, .left q, a => by rw [if_neg (by intro h; cases h)]; rfl
  | .right p, .node v l r, .here, a => by rw [if_neg (by intro h; cases h)]; rfl
  | .right p, .node v l r, .right q, a => by
    show Tr.getP q (Tr.updP p r a) = _
    rw [Tr.getP_updP p r q a]
    by_cases h : q = p
    · rw [if_pos h, if_pos (by rw [h])]
    · rw [if_neg h, if_neg (by intro hh; cases hh; exact h rfl)]; rfl
  | .right p, .node v l r, .left q, a => by rw [if_neg (by intro h; cases h)]; rfl

theorem pathF_zero (f : Nat) : pathF f 0 = .here := by cases f <;> rfl

theorem pathF_succ (f n : Nat) (hn : n ≠ 0) : pathF (f + 1) n = if n % 2 = 1 then .left (pathF f (n / 2)) else .right (pathF f (n / 2 - 1)) := by
  show Bool.casesOn (motive := fun _ => Pth) (Nat.beq n 0) (Bool.casesOn (motive := fun _ => Pth) (Nat.beq (n % 2) 1) (.right (pathF f (n / 2 - 1))) (.left (pathF f (n / 2)))) .here = _
  have h1 : Nat.beq n 0 = false := by cases hb : Nat.beq n 0 with | false => rfl | true => exact absurd (Nat.eq_of_beq_eq_true hb) hn
  rw [h1]
  by_cases h2 : n % 2 = 1
  · rw [if_pos h2, h2]; rfl
  · have h3 : Nat.beq (n % 2) 1 = false := by cases hb : Nat.beq (n % 2) 1 with | false => rfl | true => exact absurd (Nat.eq_of_beq_eq_true hb) h2
    rw [if_neg h2, h3]

theorem pathF_inj : ∀ (f g n k : Nat), n ≤ f → k ≤ g → pathF f n = pathF g k → n = k := by
  intro f
  induction f with
  | zero =>
    intro g n k hn hk h
    have : n = 0 := by omega
    subst this
    by_cases hk0 : k = 0
    · exact hk0.symm
    · obtain ⟨g', rfl⟩ : ∃ g', g = g' + 1 := ⟨g - 1, by omega⟩
      rw [pathF_zero, pathF_succ _ _ hk0] at h
      split at h <;> cases h
  | succ f ih =>
    intro g n k hn hk h
    by_cases hn0 : n = 0
    · subst hn0
      by_cases hk0 : k = 0
      · exact hk0.symm
      · obtain ⟨g', rfl⟩ : ∃ g', g = g' + 1 := ⟨g - 1, by omega⟩
        rw [pathF_zero, pathF_succ _ _ hk0] at h
        split at h <;> cases h
    · rw [pathF_succ _ _ hn0] at h
      by_cases hk0 : k = 0
      · subst hk0
        rw [pathF_zero] at h
        split at h <;> cases h
      · obtain ⟨g', rfl⟩ : ∃ g', g = g' + 1 := ⟨g - 1, by omega⟩
        rw [pathF_succ _ _ hk0] at h
        by_cases h2 : n % 2 = 1
        · by_cases h3 : k % 2 = 1
          · rw [if_pos h2, if_pos h3] at h
            have := ih g' (n / 2) (k / 2) (by omega) (by omega) (Pth.left.inj h)
            omega
          · rw [if_pos h2, if_neg h3] at h; cases h
        · by_cases h3 : k % 2 = 1
          · rw [if_neg h2, if_pos h3] at h; cases h
          · rw [if_neg h2, if_neg h3] at h
            have := ih g' (n / 2 - 1) (k / 2 - 1) (by omega) (by omega) (Pth.right.inj h)
            omega

theorem pathOf_inj {n k : Nat} : pathOf n = pathOf k ↔ n = k :=
  ⟨fun h => pathF_inj n k n k (Nat.le_refl _) (Nat.le_refl _) h, fun h => by rw [h]⟩

open Classical in
theorem Tr.get_upd (t : Tr α) (n k : Nat) (a : α) : (Tr.upd t n a).get k = if k = n then some a else t.get k := by
  show Tr.getP (pathOf k) (Tr.updP (pathOf n) t a) = _
  rw [Tr.getP_updP]
  by_cases h : k = n
  · rw [if_pos h, if_pos (by rw [h])]
  · rw [if_neg h, if_neg (fun hh => h (pathOf_inj.1 hh))]; rfl

end

/-! Lists -/

section
variable {α : Type}

theorem lenL_eq (l : List α) : lenL l = l.length := by
  induction l with
  | nil => rfl
  | cons a l ih => show lenL l + 1 = l.length + 1; rw [ih]

theorem appL_eq (l r : List α) : appL l r = l ++ r := by
  induction l with
  | nil => rfl
  | cons a l ih => show a :: appL l r = a :: (l ++ r); rw [ih]

theorem takeL_eq : ∀ (n : Nat) (l : List α), takeL n l = l.take n
  | 0, l => by show ([] : List α) = l.take 0; simp
  | n + 1, [] => rfl
  | n + 1, a :: l => by show a :: takeL n l = a :: l.take n; rw [takeL_eq n l]

theorem dropL_eq : ∀ (n : Nat) (l : List α), dropL n l = l.drop n
  | 0, l => rfl
  | n + 1, [] => rfl
  | n + 1, a :: l => by show dropL n l = l.drop n; exact dropL_eq n l

theorem overL_eq : ∀ (off : Nat) (cs vs : List AVal), overL off cs vs = overlay cs off vs
  | 0, cs, vs => by
    show appL vs (dropL (lenL vs) cs) = _
    rw [appL_eq, dropL_eq, lenL_eq]
    cases cs <;> rfl
  | off + 1, [], vs => rfl
  | off + 1, c :: cs, vs => by show c :: overL off cs vs = c :: overlay cs off vs; rw [overL_eq off cs vs]

theorem eqBytes_iff : ∀ (a b : List UInt8), eqBytes a b = (a == b)
  | [], [] => rfl
  | [], _ :: _ => rfl
  | _ :: _, [] => rfl
  | x :: xs, y :: ys => by
    simp only [eqBytes]
    by_cases h : x = y
    · subst h
      have : Nat.beq x.toNat x.toNat = true := Nat.beq_refl _
      rw [this]
      simp only [eqBytes_iff xs ys]
      simp
    · have : Nat.beq x.toNat y.toNat = false := by
        cases hb : Nat.beq x.toNat y.toNat with
        | false => rfl
        | true => exact absurd (UInt8.toNat_inj.1 (Nat.eq_of_beq_eq_true hb)) h
      rw [this]
      simp [h]

end

theorem Mem.get_set (M : Mem) (id k : Nat) (b : ABlock) : (M.set id b).get k = if k = id then some b else M.get k :=
  Tr.get_upd _ _ _ _

theorem Mem.get_alloc (M : Mem) (k : Nat) (b : ABlock) : (M.alloc b).get k = if k = M.next then some b else M.get k :=
  Tr.get_upd _ _ _ _

theorem Mem.next_set (M : Mem) (id : Nat) (b : ABlock) : (M.set id b).next = M.next := rfl
theorem Mem.next_alloc (M : Mem) (b : ABlock) : (M.alloc b).next = M.next + 1 := rfl
theorem Mem.get_empty (k : Nat) : Mem.empty.get k = none := Tr.getP_leaf _

theorem Env.at_put (e : Env) (d : Tmp) (v : AVal) (t : Tmp) : (e.put (some d) v).at t = if t = d then v else e.at t := by
  show Option.rec (motive := fun _ => AVal) AVal.undef id ((Tr.upd e d v).get t) = _
  rw [Tr.get_upd]
  by_cases h : t = d
  · rw [if_pos h, if_pos h]; rfl
  · rw [if_neg h, if_neg h]; rfl

theorem Env.put_none (e : Env) (v : AVal) : e.put none v = e := rfl
theorem Env.at_leaf (t : Tmp) : Env.at (.leaf : Env) t = .undef := by
  show Option.rec (motive := fun _ => AVal) AVal.undef id (Tr.getP (pathOf t) (.leaf : Env)) = _
  rw [Tr.getP_leaf]

theorem Env.at_ofArgs (l : List AVal) : ∀ (n : Nat) (e : Env) (t : Nat), Env.at (Env.ofArgs l n e) t = if n ≤ t ∧ t < n + l.length then (l[t - n]?).getD .undef else e.at t := by
  induction l with
  | nil => intro n e t; rw [if_neg (by simp only [List.length_nil]; omega)]; rfl
  | cons v l ih =>
    intro n e t
    show Env.at (Env.ofArgs l (n + 1) (Env.put e (some n) v)) t = _
    rw [ih, Env.at_put]
    by_cases h : t = n
    · subst h
      rw [if_neg (by omega), if_pos rfl, if_pos (by simp only [List.length_cons]; omega)]
      simp
    · rw [if_neg h]
      by_cases h2 : n + 1 ≤ t ∧ t < n + 1 + l.length
      · rw [if_pos h2, if_pos (by simp only [List.length_cons]; omega)]
        have : t - n = (t - (n + 1)) + 1 := by omega
        rw [this]; simp
      · rw [if_neg h2, if_neg (by simp only [List.length_cons]; omega)]

/-! Where abstract blocks lie in a world -/

/-- Where a header's cells lie: the block, how many cells are there under this header, how many belong to it (its spare ones too). -/
structure Pl where
  blk : Nat
  ext : Nat
  tot : Nat
  le : ext ≤ tot
  ro : Bool
  frm : Nat

abbrev Plc := Nat → Nat → Option Pl

inductive ValRel (m : Plc) : AVal → Value → Prop
  | undef (c : Value) : ValRel m .undef c
  | bool (b : Bool) : ValRel m (.bool b) (.bool b)
  | int (k : IntKind) (n : Int) : ValRel m (.int k n) (.int k n)
  | str (s : List UInt8) : ValRel m (.str s) (.string ⟨s.toArray⟩)
  | ptr (a : AAddr) (pl : Pl) : m a.id a.ep = some pl → a.lim ≤ pl.ext ∧ pl.frm ≤ a.off → ValRel m (.ptr a) (.pointer (some ⟨pl.blk, a.off, none⟩))
  | nilPtr : ValRel m .nilPtr (.pointer none)
  | slice (a : AAddr) (sz len cap : Nat) (ex : Bool) (pl : Pl) (ccap : Nat) : m a.id a.ep = some pl → a.lim ≤ pl.ext ∧ pl.frm ≤ a.off → len ≤ cap → cap ≤ ccap → (ex = true → ccap = cap) →
      a.off + cap * sz ≤ a.lim → a.off + ccap * sz ≤ pl.tot → ccap ≤ maxLen → ValRel m (.slice a sz len cap ex) (.slice (some ⟨pl.blk, a.off, none⟩) len ccap)
  | nilSlice : ValRel m .nilSlice (.slice none 0 0)
  | emptySl (c : Addr) (ccap : Nat) : ValRel m .emptySl (.slice (some c) 0 ccap)
  | map (id : Nat) (pl : Pl) : m id 0 = some pl → ValRel m (.map id) (.map (some pl.blk))
  | nilMap : ValRel m .nilMap (.map none)
  | func (f : FuncId) (vs : List AVal) (cs : Array Value) : vs.length = cs.size → (∀ (i : Nat) (v : AVal) (c : Value), vs[i]? = some v → cs[i]? = some c → ValRel m v c) → ValRel m (.func f vs) (.func (.func f) #[] cs)
  | nilFunc : ValRel m .nilFunc .nilFunc
  | iface (t : TypeId) (v : AVal) (c : Value) : ValRel m v c → ValRel m (.iface t v) (.iface t c)
  | nilIface : ValRel m .nilIface .nilIface
  | agg (vs : List AVal) (cs : Array Value) : vs.length = cs.size → (∀ (i : Nat) (v : AVal) (c : Value), vs[i]? = some v → cs[i]? = some c → ValRel m v c) → (∀ (i : Nat) (c : Value), cs[i]? = some c → c.oneCell' = true) → ValRel m (.agg vs) (.agg cs)
  | tuple (vs : List AVal) (cs : Array Value) : vs.length = cs.size → (∀ (i : Nat) (v : AVal) (c : Value), vs[i]? = some v → cs[i]? = some c → ValRel m v c) → ValRel m (.tuple vs) (.tuple cs)

def Plc.le (m m' : Plc) : Prop := ∀ id e pl, m id e = some pl → m' id e = some pl

theorem Plc.le_refl (m : Plc) : m.le m := fun _ _ _ h => h
theorem Plc.le_trans {m m' m'' : Plc} (h : m.le m') (h' : m'.le m'') : m.le m'' := fun id e pl x => h' id e pl (h id e pl x)

theorem ValRel.mono {m m' : Plc} (hm : m.le m') {v : AVal} {c : Value} (h : ValRel m v c) : ValRel m' v c := by
  induction h with
  | undef c => exact .undef c
  | bool b => exact .bool b
  | int k n => exact .int k n
  | str s => exact .str s
  | ptr a pl h1 h2 => exact .ptr a pl (hm _ _ _ h1) h2
  | nilPtr => exact .nilPtr
  | slice a sz len cap ex pl ccap h1 h2 h3 h4 h5 h6 h7 h8 => exact .slice a sz len cap ex pl ccap (hm _ _ _ h1) h2 h3 h4 h5 h6 h7 h8
  | nilSlice => exact .nilSlice
  | emptySl c n => exact .emptySl c n
  | map id pl h => exact .map id pl (hm _ _ _ h)
  | nilMap => exact .nilMap
  | func f vs cs h _ ih => exact .func f vs cs h ih
  | nilFunc => exact .nilFunc
  | iface t v c _ ih => exact .iface t v c ih
  | nilIface => exact .nilIface
  | agg vs cs h _ h1 ih => exact .agg vs cs h ih h1
  | tuple vs cs h _ ih => exact .tuple vs cs h ih

/-- Values, one by one. -/
def ListRel (m : Plc) (vs : List AVal) (cs : List Value) : Prop :=
  vs.length = cs.length ∧ ∀ (i : Nat) (v : AVal) (c : Value), vs[i]? = some v → cs[i]? = some c → ValRel m v c

def PairsRel (m : Plc) (es : List (AVal × AVal)) (cs : List MapEntry) : Prop :=
  es.length = cs.length ∧ ∀ (i : Nat) (p : AVal × AVal) (c : MapEntry), es[i]? = some p → cs[i]? = some c → ValRel m p.1 c.key ∧ ValRel m p.2 c.val

/-- What an abstract block says of the world, under one header. -/
def CellsRel (m : Plc) (w : World) (cs : List AVal) (pl : Pl) : Prop :=
  pl.ext ≤ cs.length ∧ ∃ ccs el lo hi, w.heap[pl.blk]? = some (.cells ccs el (lo, hi)) ∧ pl.tot ≤ ccs.size ∧ (pl.ro = false → ∀ i, i < pl.tot → ¬ (lo ≤ i ∧ i < hi)) ∧
    ∀ (i : Nat) (v : AVal) (c : Value), pl.frm ≤ i → i < pl.ext → cs[i]? = some v → ccs[i]? = some c → ValRel m v c ∧ c.oneCell' = true

def BlockRel (m : Plc) (w : World) (id : Nat) : ABlock → Prop
  | .cells cs ep lo => lo ≤ ep ∧ ∀ e pl, lo ≤ e → m id e = some pl → e ≤ ep ∧ (e = ep → pl.ext = cs.length ∧ pl.ro = false) ∧ CellsRel m w cs pl
  | .map es => ∀ pl, m id 0 = some pl → pl.ro = false ∧ ∃ ents clock, w.heap[pl.blk]? = some (.map ents clock) ∧ PairsRel m es ents.toList

structure MemRel (m : Plc) (M : Mem) (w : World) : Prop where
  dom : ∀ id e pl, m id e = some pl → id < M.next ∧ pl.blk < w.heap.size
  apart : ∀ id e id' e' pl pl', m id e = some pl → m id' e' = some pl' → pl.ro = false → pl.blk = pl'.blk → id = id'
  block : ∀ id b, M.get id = some b → id < M.next ∧ BlockRel m w id b

/-- The epoch under which a block may be written. -/
def ABlock.cur : ABlock → Nat
  | .cells _ ep _ => ep
  | .map _ => 0

/-- A block of the world that may be written. -/
def Wr (m : Plc) (M : Mem) (β : Nat) : Prop := ∃ id b pl, M.get id = some b ∧ m id b.cur = some pl ∧ pl.blk = β

/-- What a run may have changed. -/
structure Fr (m : Plc) (M : Mem) (w : World) (m' : Plc) (M' : Mem) (w' : World) : Prop where
  le : m.le m'
  phantom : ∀ id, id < M.next → (∀ e, m id e = none) → (∀ e, m' id e = none) ∧ M'.get id = M.get id
  next : M.next ≤ M'.next
  size : w.heap.size ≤ w'.heap.size
  kept : ∀ β, β < w.heap.size → ¬ Wr m M β → w'.heap[β]? = w.heap[β]?
  fresh : ∀ β, Wr m' M' β → Wr m M β ∨ w.heap.size ≤ β
  os : w'.os = w.os
  tape : w'.tape = w.tape
  output : w'.output = w.output

theorem Fr.refl (m : Plc) (M : Mem) (w : World) : Fr m M w m M w :=
  ⟨Plc.le_refl m, fun _ _ h => ⟨h, rfl⟩, Nat.le_refl _, Nat.le_refl _, fun _ _ _ => rfl, fun _ h => .inl h, rfl, rfl, rfl⟩

theorem Fr.trans {m m1 m2 : Plc} {M M1 M2 : Mem} {w w1 w2 : World} (h : Fr m M w m1 M1 w1) (h' : Fr m1 M1 w1 m2 M2 w2) : Fr m M w m2 M2 w2 where
  le := Plc.le_trans h.le h'.le
  phantom id hid hn := by
    obtain ⟨a, b⟩ := h.phantom id hid hn
    obtain ⟨c, d⟩ := h'.phantom id (Nat.lt_of_lt_of_le hid h.next) a
    exact ⟨c, d.trans b⟩
  next := Nat.le_trans h.next h'.next
  size := Nat.le_trans h.size h'.size
  kept β hβ hn := by
    rw [← h.kept β hβ hn]
    refine h'.kept β (Nat.lt_of_lt_of_le hβ h.size) ?_
    intro hw
    rcases h.fresh β hw with hw | hs
    · exact hn hw
    · omega
  fresh β hw := by
    rcases h'.fresh β hw with hw | hs
    · exact h.fresh β hw
    · right; have := h.size; omega
  os := h'.os.trans h.os
  tape := h'.tape.trans h.tape
  output := h'.output.trans h.output

/-- A draw changes nothing that is spoken of. -/
theorem MemRel.of_heap {m : Plc} {M : Mem} {w w' : World} (h : MemRel m M w) (hh : w'.heap = w.heap) : MemRel m M w' where
  dom id e pl x := by rw [hh]; exact h.dom id e pl x
  apart := h.apart
  block id b hb := by
    refine ⟨(h.block id b hb).1, ?_⟩
    have := (h.block id b hb).2
    cases b with
    | cells cs ep lo => exact ⟨this.1, fun e pl he hp => by obtain ⟨a, b, c⟩ := this.2 e pl he hp; exact ⟨a, b, by unfold CellsRel at *; rw [hh]; exact c⟩⟩
    | map es => intro pl hp; obtain ⟨r, ents, clock, a, b⟩ := this pl hp; exact ⟨r, ents, clock, by rw [hh]; exact a, b⟩

/-- A block written anew under the epoch that it had: no other block of the world may be written. -/
theorem Wr.of_set {m : Plc} {M : Mem} {id : Nat} {b b' : ABlock} (hb : M.get id = some b) (hc : b'.cur = b.cur) {β : Nat} (h : Wr m (M.set id b') β) : Wr m M β := by
  obtain ⟨i, c, pl, h1, h2, h3⟩ := h
  rw [Mem.get_set] at h1
  split at h1
  · rename_i hi; subst hi; cases h1
    exact ⟨i, b, pl, hb, by rw [← hc]; exact h2, h3⟩
  · exact ⟨i, c, pl, h1, h2, h3⟩

theorem Fr.of_heap (m : Plc) (M : Mem) {w w' : World} (hh : w'.heap = w.heap) (ho : w'.os = w.os) (ht : w'.tape = w.tape) (hp : w'.output = w.output) : Fr m M w m M w' :=
  ⟨Plc.le_refl m, fun _ _ h => ⟨h, rfl⟩, Nat.le_refl _, by rw [hh]; exact Nat.le_refl _, fun _ _ _ => by rw [hh], fun _ h => .inl h, ho, ht, hp⟩

end Go.VE
