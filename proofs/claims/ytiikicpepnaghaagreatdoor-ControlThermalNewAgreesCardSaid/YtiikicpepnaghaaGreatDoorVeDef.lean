/-
  A deterministic evaluator of loaded programs over an abstract memory (definitions).
-/
import Derived.Orders
namespace Go.VE

/-- A place in abstract memory: block, offset in cells, the epoch of the header that it was made under, and the first offset that lies beyond what it may reach. -/
structure AAddr where
  id : Nat
  off : Nat
  ep : Nat
  lim : Nat
  deriving DecidableEq

inductive AVal where
  | undef
  | bool (b : Bool)
  | int (k : IntKind) (n : Int)
  | str (s : List UInt8)
  | ptr (a : AAddr)
  | nilPtr
  | slice (a : AAddr) (sz len cap : Nat) (exact : Bool)
  | nilSlice
  | emptySl
  | map (id : Nat)
  | nilMap
  | func (f : FuncId) (captured : List AVal)
  | nilFunc
  | iface (t : TypeId) (v : AVal)
  | nilIface
  | agg (cells : List AVal)
  | tuple (vs : List AVal)
  deriving Inhabited

inductive ABlock where
  | cells (cs : List AVal) (ep lo : Nat)
  | map (es : List (AVal × AVal))

inductive Tr (α : Type) where
  | leaf
  | node (v : Option α) (l r : Tr α)

/-- Where a number lies in a trie. -/
inductive Pth where
  | here
  | left (p : Pth)
  | right (p : Pth)

noncomputable def pathF (f : Nat) : Nat → Pth :=
  Nat.rec (motive := fun _ => Nat → Pth) (fun _ => .here)
    (fun _ ih n => Bool.casesOn (motive := fun _ => Pth) (Nat.beq n 0)
      (Bool.casesOn (motive := fun _ => Pth) (Nat.beq (n % 2) 1) (.right (ih (n / 2 - 1))) (.left (ih (n / 2)))) .here) f

noncomputable def pathOf (n : Nat) : Pth := pathF n n

noncomputable def Tr.getP {α : Type} (p : Pth) : Tr α → Option α :=
  Pth.rec (motive := fun _ => Tr α → Option α) (fun t => Tr.rec (motive := fun _ => Option α) none (fun v _ _ _ _ => v) t)
    (fun _ ih t => ih (Tr.rec (motive := fun _ => Tr α) .leaf (fun _ l _ _ _ => l) t)) (fun _ ih t => ih (Tr.rec (motive := fun _ => Tr α) .leaf (fun _ _ r _ _ => r) t)) p

noncomputable def Tr.updP {α : Type} (p : Pth) : Tr α → α → Tr α :=
  Pth.rec (motive := fun _ => Tr α → α → Tr α)
    (fun t => Tr.rec (motive := fun _ => α → Tr α) (fun a => .node (some a) .leaf .leaf) (fun _ l r _ _ a => .node (some a) l r) t)
    (fun _ ih t => Tr.rec (motive := fun _ => (Tr α → α → Tr α) → α → Tr α) (fun ih a => .node none (ih .leaf a) .leaf) (fun v l r _ _ ih a => .node v (ih l a) r) t ih)
    (fun _ ih t => Tr.rec (motive := fun _ => (Tr α → α → Tr α) → α → Tr α) (fun ih a => .node none .leaf (ih .leaf a)) (fun v l r _ _ ih a => .node v l (ih r a)) t ih) p

noncomputable def Tr.get {α : Type} (t : Tr α) (n : Nat) : Option α := Tr.getP (pathOf n) t
noncomputable def Tr.upd {α : Type} (t : Tr α) (n : Nat) (a : α) : Tr α := Tr.updP (pathOf n) t a

structure Mem where
  next : Nat
  tr : Tr ABlock

def Mem.empty : Mem := ⟨0, .leaf⟩
noncomputable def Mem.get (M : Mem) (id : Nat) : Option ABlock := M.tr.get id
noncomputable def Mem.set (M : Mem) (id : Nat) (b : ABlock) : Mem := ⟨M.next, M.tr.upd id b⟩
noncomputable def Mem.alloc (M : Mem) (b : ABlock) : Mem := ⟨M.next + 1, M.tr.upd M.next b⟩

abbrev Env := Tr AVal

noncomputable def Env.at (e : Env) (t : Tmp) : AVal := Option.rec (motive := fun _ => AVal) .undef id (Tr.getP (pathOf t) e)

noncomputable def Env.put (e : Env) (d : Option Tmp) (v : AVal) : Env :=
  Option.rec (motive := fun _ => Env) e (fun i => e.upd i v) d

noncomputable def Env.ofArgs (l : List AVal) : Nat → Env → Env :=
  List.rec (motive := fun _ => Nat → Env → Env) (fun _ e => e) (fun v _ ih n e => ih (n + 1) (e.upd n v)) l

/-! Lists, by their recursor (the kernel's fewest steps) -/

noncomputable def lenL {α : Type} (l : List α) : Nat := List.rec (motive := fun _ => Nat) 0 (fun _ _ ih => ih + 1) l
noncomputable def appL {α : Type} (l r : List α) : List α := List.rec (motive := fun _ => List α) r (fun a _ ih => a :: ih) l
noncomputable def takeL {α : Type} (n : Nat) : List α → List α :=
  Nat.rec (motive := fun _ => List α → List α) (fun _ => []) (fun _ ih l => List.rec (motive := fun _ => (List α → List α) → List α) (fun _ => []) (fun a t _ ih => a :: ih t) l ih) n
noncomputable def dropL {α : Type} (n : Nat) : List α → List α :=
  Nat.rec (motive := fun _ => List α → List α) (fun l => l) (fun _ ih l => List.rec (motive := fun _ => (List α → List α) → List α) (fun _ => []) (fun _ t _ ih => ih t) l ih) n

/-! Values -/

def ofVal0 : Value → AVal
  | .bool b => .bool b
  | .int k n => .int k n
  | .string s => .str s.data.toList
  | .pointer none => .nilPtr
  | .slice none 0 0 => .nilSlice
  | .map none => .nilMap
  | .nilFunc => .nilFunc
  | .nilIface => .nilIface
  | .iface t (.bool b) => .iface t (.bool b)
  | .iface t (.int k n) => .iface t (.int k n)
  | .iface t (.string s) => .iface t (.str s.data.toList)
  | _ => .undef

def oneCellB : Value → Bool
  | .agg _ | .tuple _ => false
  | _ => true

def ofVal : Value → AVal
  | .agg cs => match cs.toList.all oneCellB with
    | true => .agg (cs.toList.map ofVal0)
    | false => .undef
  | v => ofVal0 v

/-- A value that may lie in memory. -/
def AVal.solid : AVal → Bool
  | .undef => false
  | .tuple _ => false
  | _ => true

def AVal.cells : AVal → List AVal
  | .agg cs => cs
  | v => [v]

/-- Equal bytes. -/
def eqBytes (a : List UInt8) : List UInt8 → Bool :=
  match a with
  | [] => fun b => match b with
    | [] => true
    | _ :: _ => false
  | x :: xs => fun b => match b with
    | [] => false
    | y :: ys => match Nat.beq x.toNat y.toNat with
      | true => eqBytes xs ys
      | false => false

/-- Plain cells are equal (what cannot be told is 'false'). -/
def AVal.beq0 : AVal → AVal → Bool
  | .bool a, .bool b => a == b
  | .int j a, .int k b => j == k && a == b
  | .str a, .str b => eqBytes a b
  | .ptr a, .ptr b => Nat.beq a.id b.id && Nat.beq a.off b.off && Nat.beq a.ep b.ep && Nat.beq a.lim b.lim
  | .nilPtr, .nilPtr => true
  | .slice a s l c e, .slice b s' l' c' e' => Nat.beq a.id b.id && Nat.beq a.off b.off && Nat.beq a.ep b.ep && Nat.beq a.lim b.lim && Nat.beq s s' && Nat.beq l l' && Nat.beq c c' && e == e'
  | .nilSlice, .nilSlice => true
  | .emptySl, .emptySl => true
  | .map a, .map b => Nat.beq a b
  | .nilMap, .nilMap => true
  | .nilFunc, .nilFunc => true
  | .func f [], .func g [] => Nat.beq f g
  | .nilIface, .nilIface => true
  | _, _ => false

def all2 {α : Type} (f : α → α → Bool) : List α → List α → Bool
  | [], [] => true
  | a :: as, b :: bs => f a b && all2 f as bs
  | _, _ => false

def AVal.beq : AVal → AVal → Bool
  | .agg as, .agg bs => all2 AVal.beq0 as bs
  | .tuple as, .tuple bs => all2 AVal.beq0 as bs
  | a, b => AVal.beq0 a b

/-! Memory -/

noncomputable def loadCells (M : Mem) (a : AAddr) (n : Nat) : Option (List AVal) :=
  match M.get a.id with
  | some (.cells cs _ lo) =>
    match Nat.ble lo a.ep, Nat.ble (a.off + n) a.lim with
    | true, true => some (takeL n (dropL a.off cs))
    | _, _ => none
  | _ => none

/-- 'cs' with 'vs' laid over it from 'off' on. -/
def overlay : List AVal → Nat → List AVal → List AVal
  | cs, 0, vs => vs ++ cs.drop vs.length
  | [], _ + 1, vs => vs
  | c :: cs, off + 1, vs => c :: overlay cs off vs

/-- The same, in fewer steps. -/
noncomputable def overL (off : Nat) : List AVal → List AVal → List AVal :=
  Nat.rec (motive := fun _ => List AVal → List AVal → List AVal) (fun cs vs => appL vs (dropL (lenL vs) cs))
    (fun _ ih cs => List.rec (motive := fun _ => (List AVal → List AVal → List AVal) → List AVal → List AVal) (fun _ vs => vs) (fun c t _ ih vs => c :: ih t vs) cs ih) off

noncomputable def storeCells (M : Mem) (a : AAddr) (vs : List AVal) : Option Mem :=
  match M.get a.id with
  | some (.cells cs ep _) =>
    match Nat.beq a.ep ep, Nat.ble (a.off + vs.length) a.lim with
    | true, true => some (M.set a.id (.cells (overL a.off cs vs) ep ep))
    | _, _ => none
  | _ => none

section
variable (P : Program)

def agg? (t : TypeId) : Option Bool :=
  match P.underlying t with
  | some (.struct _) | some (.array _ _) => some true
  | some _ => some false
  | none => none

def size? (t : TypeId) : Option Nat := (P.info? t).map (·.size)
def bytes (t : TypeId) : Nat := ((P.info? t).map (·.bytes)).getD 0
def zero? (t : TypeId) : Option Value := (P.info? t).bind (·.zero)
def zero (t : TypeId) : AVal := match zero? P t with | some v => ofVal v | none => .undef

def elemOf (t : TypeId) : Option TypeId := match P.underlying t with | some (.slice e) => some e | _ => none

noncomputable def loadVar (M : Mem) (t : TypeId) (a : AAddr) : Option AVal :=
  match agg? P t with
  | some true => match size? P t with
    | some n => (loadCells M a n).map .agg
    | none => none
  | some false => match loadCells M a 1 with
    | some [v] => some v
    | _ => none
  | none => none

noncomputable def storeVar (M : Mem) (t : TypeId) (a : AAddr) (v : AVal) : Option Mem :=
  match v.solid with
  | true => match size? P t with
    | some n => match Nat.beq v.cells.length n with
      | true => storeCells M a v.cells
      | false => none
    | none => none
  | false => none

def fieldOf (t : TypeId) (i : Nat) : Option (TypeId × Nat) :=
  match P.underlying t with
  | some (.struct fs) => match fs[i]? with
    | some f => some (f.type, f.offset)
    | none => none
  | _ => none

/-! Operators on plain values -/

def binInt (op : BinOp) : IntKind → Int → Int → Option AVal :=
  match op with
  | .add => fun k a b => some (.int k (k.wrap (a + b)))
  | .sub => fun k a b => some (.int k (k.wrap (a - b)))
  | .mul => fun k a b => some (.int k (k.wrap (a * b)))
  | .quo => fun k a b => if b = 0 then none else some (.int k (k.wrap (a.tdiv b)))
  | .rem => fun k a b => if b = 0 then none else some (.int k (a.tmod b))
  | .and => fun k a b => some (.int k (k.wrap (BitVec.ofInt k.bits a &&& BitVec.ofInt k.bits b).toNat))
  | .or => fun k a b => some (.int k (k.wrap (BitVec.ofInt k.bits a ||| BitVec.ofInt k.bits b).toNat))
  | .xor => fun k a b => some (.int k (k.wrap (BitVec.ofInt k.bits a ^^^ BitVec.ofInt k.bits b).toNat))
  | .andNot => fun k a b => some (.int k (k.wrap (BitVec.ofInt k.bits a &&& ~~~ BitVec.ofInt k.bits b).toNat))
  | .eql => fun _ a b => some (.bool (a == b))
  | .neq => fun _ a b => some (.bool (a != b))
  | .lss => fun _ a b => some (.bool (decide (a < b)))
  | .leq => fun _ a b => some (.bool (decide (a ≤ b)))
  | .gtr => fun _ a b => some (.bool (decide (a > b)))
  | .geq => fun _ a b => some (.bool (decide (a ≥ b)))
  | _ => fun _ _ _ => none

def shiftInt (op : BinOp) (k : IntKind) (x y : Int) : Option AVal :=
  if y < 0 then none
  else match op with
    | .shl => some (.int k (k.wrap (x * 2 ^ (min y.toNat k.bits))))
    | .shr => some (.int k (x.fdiv (2 ^ (min y.toNat k.bits))))
    | _ => none

def binStr (op : BinOp) (a b : List UInt8) : Option AVal :=
  match op with
  | .add => if a.length + b.length ≤ 2 ^ 62 then some (.str (a ++ b)) else none
  | .eql => some (.bool (eqBytes a b))
  | .neq => some (.bool !(eqBytes a b))
  | .lss => some (.bool (Op.bytesLess a b))
  | .leq => some (.bool (Op.bytesLess a b || eqBytes a b))
  | .gtr => some (.bool !(Op.bytesLess a b || eqBytes a b))
  | .geq => some (.bool !(Op.bytesLess a b))
  | _ => none

/-- '==' at a plain type. -/
def eqPlain (t : TypeId) (x y : AVal) : Option Bool :=
  match P.underlying t with
  | some .bool => match x, y with
    | .bool a, .bool b => some (a == b)
    | _, _ => none
  | some (.int _) => match x, y with
    | .int j a, .int k b => if j = k then some (a == b) else none
    | _, _ => none
  | some .string => match x, y with
    | .str a, .str b => some (eqBytes a b)
    | _, _ => none
  | _ => none

/-- '==' of structs whose fields are of plain types, one cell each, none of them blank. -/
def eqFields : List Field → Nat → List AVal → List AVal → Option Bool
  | [], _, [], [] => some true
  | f :: fs, n, a :: as, b :: bs =>
    match f.name == "_" || !Nat.beq f.offset n with
    | true => none
    | false => match eqPlain P f.type a b with
      | some true => eqFields fs (n + 1) as bs
      | some false => some false
      | none => none
  | _, _, _, _ => none

def eqStruct (t : TypeId) (fs : List Field) (x y : AVal) : Option Bool :=
  match x, y with
  | .agg as, .agg bs => match P.stoodInHeld t || P.eqGuardType P.depth t with
    | true => none
    | false => eqFields P fs 0 as bs
  | _, _ => none

def eqVal (t : TypeId) (x y : AVal) : Option Bool :=
  match P.underlying t with
  | some (.struct fs) => eqStruct P t fs.toList x y
  | some (.pointer _) => match x, y with
    | .nilPtr, .nilPtr => some true
    | .ptr _, .nilPtr => some false
    | .nilPtr, .ptr _ => some false
    | _, _ => none
  | some (.slice _) => match x, y with
    | .nilSlice, .nilSlice => some true
    | .slice .., .nilSlice => some false
    | .nilSlice, .slice .. => some false
    | .emptySl, .nilSlice => some false
    | .nilSlice, .emptySl => some false
    | _, _ => none
  | some (.map _ _) => match x, y with
    | .nilMap, .nilMap => some true
    | .map _, .nilMap => some false
    | .nilMap, .map _ => some false
    | _, _ => none
  | some (.func _ _ _) => match x, y with
    | .nilFunc, .nilFunc => some true
    | .func .., .nilFunc => some false
    | .nilFunc, .func .. => some false
    | _, _ => none
  | some .bool => match x, y with
    | .bool a, .bool b => some (a == b)
    | _, _ => none
  | _ => none

def binOp (op : BinOp) (t : TypeId) (x y : AVal) : Option AVal :=
  match x, y with
  | .int k a, .int k' b =>
    match op with
    | .shl | .shr => shiftInt op k a b
    | op => if k = k' then binInt op k a b else none
  | .str a, .str b => binStr op a b
  | x, y =>
    match op with
    | .eql => (eqVal P t x y).map .bool
    | .neq => (eqVal P t x y).map fun b => .bool !b
    | _ => none

def unOp (op : UnOp) (x : AVal) : Option AVal :=
  match op, x with
  | .not, .bool b => some (.bool !b)
  | .neg, .int k n => some (.int k (k.wrap (0 - n)))
  | .xor, .int k n => binInt .xor k (if k.signed then -1 else k.max) n
  | _, _ => none

/-! The operations -/

inductive OpR where
  | val (v : AVal) (M : Mem)
  | call (f : FuncId) (args : List AVal)
  | fail

def OpR.ofOpt (M : Mem) : Option AVal → OpR
  | some v => .val v M
  | none => .fail

noncomputable def evalO (e : Env) (x : Operand) : AVal :=
  Operand.rec (motive := fun _ => Env → AVal) (fun t e => Env.at e t) (fun v _ => ofVal v) (fun _ _ => .undef) (fun f _ => .func f []) x e

/-- The value of an integer, as a number, if it lies from 0 to 'hi'. -/
def natIn (hi : Nat) : AVal → Option Nat
  | .int _ (.ofNat n) => match Nat.ble n hi with
    | true => some n
    | false => none
  | _ => none

def bound (hi d : Nat) : Option AVal → Option Nat
  | none => some d
  | some v => natIn hi v

def evSliceOf (a : AAddr) (sz len cap : Nat) (ex : Bool) (lo hi mx : Option AVal) : Option AVal :=
  match mx, hi with
  | some _, none => none
  | mx, hi =>
  match bound cap cap mx with
  | none => none
  | some m =>
    match bound m len hi with
    | none => none
    | some h =>
      match bound h 0 lo with
      | none => none
      | some l =>
        let ex' := ex || mx.isSome
        match Nat.blt l m with
        | true => some (.slice { a with off := a.off + l * sz, lim := a.off + m * sz } sz (h - l) (m - l) ex')
        | false => match ex' with
          | true => some (.slice a sz 0 0 true)
          | false => some .emptySl

/-- Parts laid into a row, each at its place and of its size. -/
def fillV (place : Nat → Option (Nat × Nat)) : List AVal → List (Nat × AVal) → Option (List AVal)
  | cs, [] => some cs
  | cs, (i, v) :: rest =>
    match place i with
    | none => none
    | some (off, n) => match v.solid && Nat.beq v.cells.length n && Nat.ble (off + n) cs.length with
      | true => fillV place (overlay cs off v.cells) rest
      | false => none

noncomputable def partsV (e : Env) (ps : Array (Nat × Operand)) : List (Nat × AVal) := ps.toList.map fun p => (p.1, evalO e p.2)

def fieldPlaces (fs : Array Field) : Option (List (Nat × Nat)) :=
  fs.toList.mapM fun f => (P.info? f.type).map fun i => (f.offset, i.size)

def listAt (l : List (Nat × Nat)) (i : Nat) : Option (Nat × Nat) := l[i]?
def rowAt (n i : Nat) : Option (Nat × Nat) := some (i * n, n)

def repeatCells (z : List AVal) : Nat → List AVal
  | 0 => []
  | n + 1 => z ++ repeatCells z n

/-- Parts that come in order, each of its size, laid end to end. -/
def rowsV (sz : Nat) : List (Nat × AVal) → Nat → Option (List AVal)
  | [], _ => some []
  | (i, v) :: rest, k => match Nat.beq i k && v.solid && Nat.beq v.cells.length sz with
    | true => match rowsV sz rest (k + 1) with
      | some cs => some (v.cells ++ cs)
      | none => none
    | false => none

def fillRow (sz n : Nat) (z : List AVal) (ps : List (Nat × AVal)) : Option (List AVal) :=
  match Nat.beq ps.length n, rowsV sz ps 0 with
  | true, some cs => some cs
  | _, _ => fillV (rowAt sz) (repeatCells z n) ps

def plainType (t : TypeId) : Bool :=
  match P.underlying t with
  | some .bool | some (.int _) | some .string => true
  | _ => false

def findKey (kt : TypeId) (k : AVal) : List (AVal × AVal) → Option (Option AVal)
  | [] => some none
  | (k', v) :: es =>
    match eqPlain P kt k k' with
    | some true => some (some v)
    | some false => findKey kt k es
    | none => none

def putKey (kt : TypeId) (k v : AVal) : List (AVal × AVal) → Option (List (AVal × AVal))
  | [] => some [(k, v)]
  | (k', v') :: es => match eqPlain P kt k k' with
    | some true => some ((k, v) :: es)
    | some false => (putKey kt k v es).map ((k', v') :: ·)
    | none => none

def dropKey (kt : TypeId) (k : AVal) : List (AVal × AVal) → Option (List (AVal × AVal))
  | [] => some []
  | (k', v') :: es => match eqPlain P kt k k' with
    | some true => some es
    | some false => (dropKey kt k es).map ((k', v') :: ·)
    | none => none

/-- The cells of a type's zero value, if there are as many as the type says, and any at all. -/
def zeroCells (t : TypeId) : Option (Nat × List AVal) :=
  match size? P t, zero? P t with
  | some n, some z => match Nat.beq (ofVal z).cells.length n && Nat.blt 0 n && (ofVal z).solid with
    | true => some (n, (ofVal z).cells)
    | false => none
  | _, _ => none

def mapTypes (t : TypeId) : Option (TypeId × TypeId) :=
  match P.underlying t with
  | some (.map k e) => some (k, e)
  | _ => none

noncomputable def newsOf (M : Mem) (sz : Nat) : AVal → Option (List AVal)
  | .nilSlice => some []
  | .emptySl => some []
  | .slice a sz' len _ _ => match Nat.beq sz sz' with
    | true => loadCells M a (len * sz)
    | false => none
  | .str s => match Nat.beq sz 1 with
    | true => some (s.map fun b => .int .u8 b.toNat)
    | false => none
  | _ => none

/-- 'n' elements of a type may be laid without asking for more memory than there can be. -/
def fits (et : TypeId) (n : Nat) : Bool := Nat.blt 0 (bytes P et) && Nat.ble ((2 * n + 2000) * bytes P et) (2 ^ 47)

noncomputable def appendNew (M : Mem) (sz n : Nat) (cs : List AVal) : OpR :=
  .val (.slice ⟨M.next, 0, 0, cs.length⟩ sz n n false) (M.alloc (.cells cs 0 0))

noncomputable def appendIn (M : Mem) (a : AAddr) (sz len n cap : Nat) (ex : Bool) (news : List AVal) : OpR :=
  match news with
  | [] => .val (.slice a sz len cap ex) M
  | _ => match storeCells M ⟨a.id, a.off + len * sz, a.ep, a.lim⟩ news with
    | some M' => .val (.slice a sz (len + n) cap ex) M'
    | none => .fail

noncomputable def appendOld (M : Mem) (sz len n : Nat) (news : List AVal) : Option (List AVal) → OpR
  | some old => appendNew M sz (len + n) (old ++ news)
  | none => .fail

noncomputable def appendTip (M : Mem) (a : AAddr) (sz len n : Nat) (news : List AVal) : OpR :=
  match M.get a.id with
  | some (.cells cs ep lo) =>
    match Nat.beq a.ep ep, Nat.beq a.off 0, Nat.beq (len * sz) (lenL cs) with
    | true, true, true =>
      .val (.slice ⟨a.id, 0, ep + 1, lenL cs + news.length⟩ sz (len + n) (len + n) false) (M.set a.id (.cells (appL cs news) (ep + 1) lo))
    | _, _, _ => .fail
  | _ => .fail

noncomputable def appendTo (M : Mem) (et : TypeId) (size : Nat) (x : AVal) (n : Nat) (news : List AVal) : OpR :=
  match x with
  | .nilSlice => match news with
    | [] => .val .nilSlice M
    | _ => match fits P et n with
      | true => appendNew M size n news
      | false => .fail
  | .slice a sz len cap ex => match fits P et (len + n) && Nat.beq sz size with
    | true => match Nat.ble (len + n) cap with
      | true => appendIn M a sz len n cap ex news
      | false => match ex with
        | true => appendOld M sz len n news (loadCells M a (len * sz))
        | false => appendTip M a sz len n news
    | false => .fail
  | _ => .fail

noncomputable def appendAll (M : Mem) (et : TypeId) (size : Nat) (x : AVal) : Option (List AVal) → OpR
  | some news => match Nat.beq (news.length % size) 0 with
    | true => appendTo P M et size x (news.length / size) news
    | false => .fail
  | none => .fail

noncomputable def append (M : Mem) (et : TypeId) (x y : AVal) : OpR :=
  match zeroCells P et with
  | some (sz, _) => appendAll P M et sz x (newsOf M sz y)
  | none => .fail

def copied (n : Nat) : Option Mem → OpR
  | some M => .val (.int .i64 n) M
  | none => .fail

noncomputable def copyTo (M : Mem) (sz : Nat) (d : AVal) : Option (List AVal) → OpR
  | some news => match d with
    | .nilSlice => .val (.int .i64 0) M
    | .slice a sz' len _ _ => match Nat.beq sz sz' && Nat.beq (news.length % sz) 0 with
      | true => copied (min len (news.length / sz)) (storeCells M a (news.take (min len (news.length / sz) * sz)))
      | false => .fail
    | _ => .fail
  | none => .fail

noncomputable def copy (M : Mem) (et : TypeId) (d y : AVal) : OpR :=
  match zeroCells P et with
  | some (sz, _) => copyTo M sz d (newsOf M sz y)
  | none => .fail

def minInt (k : IntKind) (x : Int) : List AVal → Option AVal
  | [] => some (.int k x)
  | .int k' y :: rest => if k = k' then minInt k (if y < x then y else x) rest else none
  | _ => none

def maxInt (k : IntKind) (x : Int) : List AVal → Option AVal
  | [] => some (.int k x)
  | .int k' y :: rest => if k = k' then maxInt k (if x < y then y else x) rest else none
  | _ => none

noncomputable def entriesOf (M : Mem) (id : Nat) : Option (List (AVal × AVal)) :=
  match M.get id with
  | some (.map es) => some es
  | _ => none

noncomputable def evPut (M : Mem) (id : Nat) : Option (List (AVal × AVal)) → OpR
  | some es => .val (.tuple []) (M.set id (.map es))
  | none => .fail

noncomputable def lenV (M : Mem) (t : Option TypeDesc) (x : AVal) : Option AVal :=
  match t with
  | some .string => match x with
    | .str s => some (.int .i64 s.length)
    | _ => none
  | some (.slice _) => match x with
    | .nilSlice => some (.int .i64 0)
    | .emptySl => some (.int .i64 0)
    | .slice _ _ n _ _ => some (.int .i64 n)
    | _ => none
  | some (.array n _) => some (.int .i64 n)
  | some (.pointer t) => match P.underlying t with
    | some (.array n _) => some (.int .i64 n)
    | _ => none
  | some (.map _ _) => match x with
    | .nilMap => some (.int .i64 0)
    | .map id => (entriesOf M id).map fun es => .int .i64 es.length
    | _ => none
  | _ => none

def capV (t : Option TypeDesc) (x : AVal) : Option AVal :=
  match t with
  | some (.slice _) => match x with
    | .nilSlice => some (.int .i64 0)
    | .slice _ _ _ n true => some (.int .i64 n)
    | _ => none
  | _ => none

noncomputable def builtin (M : Mem) (b : Builtin) (ts : Array TypeId) (args : List AVal) : OpR :=
  match b, args with
  | .len, [x] => OpR.ofOpt M (lenV P M ((ts[0]?).bind P.underlying) x)
  | .cap, [x] => OpR.ofOpt M (capV ((ts[0]?).bind P.underlying) x)
  | .append, [x, y] => match (ts[0]?).bind (elemOf P) with
    | some et => match (ts[1]?).bind P.underlying with
      | some (.int _) => .fail
      | some _ => append P M et x y
      | none => .fail
    | none => .fail
  | .copy, [d, y] => match (ts[0]?).bind (elemOf P) with
    | some et => copy P M et d y
    | none => .fail
  | .min, .int k x :: rest => OpR.ofOpt M (minInt k x rest)
  | .max, .int k x :: rest => OpR.ofOpt M (maxInt k x rest)
  | .delete, [.map id, k] => match (ts[0]?).bind (mapTypes P) with
    | some (kt, _) => match plainType P kt with
      | true => evPut M id ((entriesOf M id).bind (dropKey P kt k))
      | false => .fail
    | none => .fail
  | _, _ => .fail

def isNilable : AVal → Bool
  | .ptr _ => true
  | .func _ _ => true
  | _ => false

def evPick (M : Mem) (c a b : AVal) : OpR :=
  match c with
  | .bool true => .val a M
  | .bool false => .val b M
  | _ => .fail

noncomputable def evNew (M : Mem) (v : AVal) : OpR :=
  match v.solid with
  | true => .val (.ptr ⟨M.next, 0, 0, v.cells.length⟩) (M.alloc (.cells v.cells 0 0))
  | false => .fail

def evAgg (M : Mem) : Option (List AVal) → OpR
  | some cs => .val (.agg cs) M
  | none => .fail

noncomputable def evBuildZ (e : Env) (M : Mem) (t : TypeId) (ps : Array (Nat × Operand)) (z : AVal) : OpR :=
  match z.solid with
  | true => match P.underlying t with
    | some (.struct fs) => match fieldPlaces P fs with
      | some l => evAgg M (fillV (listAt l) z.cells (partsV e ps))
      | none => .fail
    | some (.array _ et) => match size? P et with
      | some n => evAgg M (fillV (rowAt n) z.cells (partsV e ps))
      | none => .fail
    | _ => .fail
  | false => .fail

noncomputable def evBuild (e : Env) (M : Mem) (t : TypeId) (ps : Array (Nat × Operand)) : OpR :=
  match zero? P t with
  | some z => evBuildZ P e M t ps (ofVal z)
  | none => .fail

noncomputable def evRow (M : Mem) (sz n : Nat) : Option (List AVal) → OpR
  | some cs => .val (.slice ⟨M.next, 0, 0, cs.length⟩ sz n n true) (M.alloc (.cells cs 0 0))
  | none => .fail

noncomputable def evBuildSlice (e : Env) (M : Mem) (t : TypeId) (n : Nat) (ps : Array (Nat × Operand)) : OpR :=
  match elemOf P t with
  | some et => match zeroCells P et with
    | some (sz, z) => match Nat.ble (n * sz) (2 ^ 20) with
      | true => evRow M sz n (fillRow sz n z (partsV e ps))
      | false => .fail
    | none => .fail
  | none => .fail

noncomputable def evLoad (M : Mem) (t : TypeId) (x : AVal) : OpR :=
  match x with
  | .ptr a => OpR.ofOpt M (loadVar P M t a)
  | _ => .fail

def OpR.ofMem : Option Mem → OpR
  | some M => .val (.tuple []) M
  | none => .fail

noncomputable def evStore (M : Mem) (t : TypeId) (x v : AVal) : OpR :=
  match x with
  | .ptr a => OpR.ofMem (storeVar P M t a v)
  | _ => .fail

def evNilCheck (M : Mem) (x : AVal) : OpR :=
  match isNilable x with
  | true => .val x M
  | false => .fail

def bytesOf : List AVal → Option (List UInt8)
  | [] => some []
  | .int .u8 n :: rest => (bytesOf rest).map (UInt8.ofNat n.toNat :: ·)
  | _ => none

def evBytes (M : Mem) : Option (List AVal) → OpR
  | some cs => OpR.ofOpt M ((bytesOf cs).map .str)
  | none => .fail

noncomputable def evToString (M : Mem) (src : TypeDesc) (x : AVal) : OpR :=
  match x with
  | .str s => .val (.str s) M
  | x => match src with
    | .slice et => match P.underlying et with
      | some (.int .u8) => match x with
        | .nilSlice => .val (.str []) M
        | .slice a sz n _ _ => match Nat.beq sz 1 with
          | true => evBytes M (loadCells M a n)
          | false => .fail
        | _ => .fail
      | _ => .fail
    | _ => .fail

noncomputable def evConvert (M : Mem) (src dst : TypeId) (x : AVal) : OpR :=
  match P.underlying src with
  | none => .fail
  | some sd => match P.underlying dst with
    | some (.int k) => match x with
      | .int _ n => .val (.int k (k.wrap n)) M
      | _ => .fail
    | some .string => evToString P M sd x
    | some (.slice et) => match x with
      | .str s => match P.underlying et with
        | some (.int .u8) => match Nat.ble s.length (2 ^ 40) with
          | true => .val (.slice ⟨M.next, 0, 0, s.length⟩ 1 s.length s.length false) (M.alloc (.cells (s.map fun b => .int .u8 b.toNat) 0 0))
          | false => .fail
        | _ => .fail
      | _ => .fail
    | _ => .fail

def evIface (M : Mem) (t : TypeId) (v : AVal) : OpR :=
  match P.underlying t with
  | some (.interface _) => .fail
  | some _ => .val (.iface t v) M
  | none => .fail

noncomputable def evFunc (e : Env) (M : Mem) (fn : Fn) (first captured : Array Operand) : OpR :=
  match fn, first.toList with
  | .func f, [] => .val (.func f (captured.toList.map (evalO e))) M
  | _, _ => .fail

noncomputable def evMakeMap (e : Env) (M : Mem) (t : TypeId) : Option Operand → OpR
  | none => .val (.map M.next) (M.alloc (.map []))
  | some x => match mapTypes P t with
    | none => .fail
    | some _ => match evalO e x with
      | .int _ _ => .val (.map M.next) (M.alloc (.map []))
      | _ => .fail

noncomputable def evMakeSlice (M : Mem) (t : TypeId) (l c : AVal) : OpR :=
  match elemOf P t with
  | some et => match zeroCells P et with
    | some (sz, z) => match l, c with
      | .int .i64 (.ofNat n), .int .i64 (.ofNat m) =>
        match Nat.ble n m && Nat.ble m (2 ^ 40) && Nat.ble (m * bytes P et) (2 ^ 40) && Nat.ble (m * sz) (2 ^ 20) with
        | true => .val (.slice ⟨M.next, 0, 0, m * sz⟩ sz n m true) (M.alloc (.cells (repeatCells z m) 0 0))
        | false => .fail
      | _, _ => .fail
    | none => .fail
  | none => .fail

def evSlice (M : Mem) (t : TypeId) (x : AVal) (lo hi mx : Option AVal) : OpR :=
  match x with
  | .str s => match mx with
    | none => match P.underlying t with
     | some .string => match bound s.length s.length hi with
      | some h => match bound h 0 lo with
        | some l => .val (.str ((s.drop l).take (h - l))) M
        | none => .fail
      | none => .fail
     | _ => .fail
    | some _ => .fail
  | .slice a sz len cap ex => match (elemOf P t).bind (size? P) with
    | some n => match Nat.beq n sz with
      | true => OpR.ofOpt M (evSliceOf a sz len cap ex lo hi mx)
      | false => .fail
    | none => .fail
  | .nilSlice => match (elemOf P t).bind (size? P) with
    | some _ => match mx with
      | none => match bound 0 0 hi, bound 0 0 lo with
        | some _, some _ => .val .nilSlice M
        | _, _ => .fail
      | some _ => .fail
    | none => .fail
  | .ptr a => match P.underlying t with
    | some (.array n et) => match size? P et with
      | some sz => match Nat.ble (a.off + n * sz) a.lim && Nat.ble n (2 ^ 40) with
        | true => OpR.ofOpt M (evSliceOf a sz n n true lo hi mx)
        | false => .fail
      | none => .fail
    | _ => .fail
  | _ => .fail

def evFieldAddr (M : Mem) (t : TypeId) (x : AVal) (i : Nat) : OpR :=
  match x with
  | .ptr a => match fieldOf P t i with
    | some (ft, off) => match size? P ft with
      | some (_ + 1) => .val (.ptr ⟨a.id, a.off + off, a.ep, a.lim⟩) M
      | _ => .fail
    | none => .fail
  | _ => .fail

def partV (t : TypeId) (cs : List AVal) (off : Nat) : Option AVal :=
  match agg? P t with
  | some true => match size? P t with
    | some n => some (.agg ((cs.drop off).take n))
    | none => none
  | some false => cs[off]?
  | none => none

def evField (M : Mem) (t : TypeId) (x : AVal) (i : Nat) : OpR :=
  match x with
  | .agg cs => match fieldOf P t i with
    | some (ft, off) => OpR.ofOpt M (partV P ft cs off)
    | none => .fail
  | _ => .fail

def evIndexAddr (M : Mem) (t : TypeId) (x i : AVal) : OpR :=
  match x with
  | .slice a sz len _ _ => match (elemOf P t).bind (size? P) with
    | some n => match Nat.beq n sz with
      | true => match natIn len i with
        | some j => match Nat.blt j len with
          | true => .val (.ptr ⟨a.id, a.off + j * sz, a.ep, a.lim⟩) M
          | false => .fail
        | none => .fail
      | false => .fail
    | none => .fail
  | .ptr a => match P.underlying t with
    | some (.array n et) => match size? P et, natIn n i with
      | some sz, some j => match Nat.blt j n with
        | true => .val (.ptr ⟨a.id, a.off + j * sz, a.ep, a.lim⟩) M
        | false => .fail
      | _, _ => .fail
    | _ => .fail
  | _ => .fail

def byteAt (s : List UInt8) (j : Nat) : Option AVal :=
  match s[j]? with
  | some b => some (.int .u8 b.toNat)
  | none => none

def evIndex (M : Mem) (t : TypeId) (x i : AVal) : OpR :=
  match i with
  | .int _ (.ofNat j) => match x with
    | .str s => match P.underlying t with
      | some .string => OpR.ofOpt M (byteAt s j)
      | _ => .fail
    | .agg cs => match P.underlying t with
      | some (.array n et) => match Nat.blt j n, size? P et with
        | true, some sz => OpR.ofOpt M (partV P et cs (j * sz))
        | _, _ => .fail
      | _ => .fail
    | _ => .fail
  | _ => .fail

def evFound (M : Mem) (z : AVal) (ok : Bool) : Option (Option AVal) → OpR
  | some (some v) => .val (if ok then .tuple [v, .bool true] else v) M
  | some none => .val (if ok then .tuple [z, .bool false] else z) M
  | none => .fail

noncomputable def evLookupZ (M : Mem) (kt : TypeId) (x k : AVal) (ok : Bool) (z : AVal) : OpR :=
  match x with
  | .nilMap => evFound M z ok (some none)
  | .map id => evFound M z ok ((entriesOf M id).bind (findKey P kt k))
  | _ => .fail

noncomputable def evLookup (M : Mem) (t : TypeId) (x k : AVal) (ok : Bool) : OpR :=
  match mapTypes P t with
  | some (kt, et) => match plainType P kt with
    | true => match zero? P et with
      | some z => evLookupZ P M kt x k ok (ofVal z)
      | none => .fail
    | false => .fail
  | none => .fail

noncomputable def evMapUpdate (M : Mem) (t : TypeId) (x k v : AVal) : OpR :=
  match mapTypes P t with
  | some (kt, _) => match plainType P kt with
    | true => match x with
      | .map id => evPut M id ((entriesOf M id).bind (putKey P kt k v))
      | _ => .fail
    | false => .fail
  | none => .fail

def evExtract (M : Mem) (x : AVal) (i : Nat) : OpR :=
  match x with
  | .tuple vs => OpR.ofOpt M vs[i]?
  | _ => .fail

/-! Functions without a body that are known -/

inductive Ext where
  | count
  | indexByte

def extNamed (s : String) : Option Ext :=
  match s == "internal/bytealg.CountString" with
  | true => some .count
  | false => match s == "internal/bytealg.IndexByteString" with
    | true => some .indexByte
    | false => none

def extOf (fn : Func) : Option Ext :=
  match fn.body with
  | some _ => none
  | none => match fn.origin == "" with
    | true => extNamed fn.name
    | false => none

def countB (c : UInt8) : List UInt8 → Nat
  | [] => 0
  | x :: xs => match Nat.beq x.toNat c.toNat with
    | true => countB c xs + 1
    | false => countB c xs

def indexB (c : UInt8) : List UInt8 → Nat → Option Nat
  | [], _ => none
  | x :: xs, i => match Nat.beq x.toNat c.toNat with
    | true => some i
    | false => indexB c xs (i + 1)

def indexV : Option Nat → AVal
  | some i => .int .i64 i
  | none => .int .i64 (-1)

def extV (x : Ext) (args : List AVal) : Option AVal :=
  match args with
  | [.str s, .int .u8 c] => match x with
    | .count => some (.int .i64 (countB c.toNat.toUInt8 s))
    | .indexByte => some (indexV (indexB c.toNat.toUInt8 s 0))
  | _ => none

def evCallee (M : Mem) (x : AVal) (args : List AVal) : OpR :=
  match x with
  | .func g captured => match (P.funcs[g]?).bind extOf with
    | none => .call g (args ++ captured)
    | some x => OpR.ofOpt M (extV x (args ++ captured))
  | _ => .fail

noncomputable def evCallOp (e : Env) (M : Mem) (c : Call) : OpR :=
  match c.callee with
  | .builtin b => builtin P M b c.argTypes (c.args.toList.map (evalO e))
  | .value f => evCallee P M (evalO e f) (c.args.toList.map (evalO e))
  | .invoke _ _ => .fail

noncomputable def evBin (M : Mem) (op : BinOp) (t : TypeId) (x y : AVal) : OpR := OpR.ofOpt M (binOp P op t x y)

noncomputable def evOp (e : Env) (M : Mem) (o : Oper) : OpR :=
  Op.rec (motive := fun _ => Program → Env → Mem → OpR)
    (fun x _ e M => .val (evalO e x) M)
    (fun x _ e M => .val (evalO e x) M)
    (fun c a b _ e M => evPick M (evalO e c) (evalO e a) (evalO e b))
    (fun t P _ M => evNew M (zero P t))
    (fun _ x _ e M => evNew M (evalO e x))
    (fun t ps P e M => evBuild P e M t ps)
    (fun t n ps P e M => evBuildSlice P e M t n ps)
    (fun t m k v P e M => evMapUpdate P M t (evalO e m) (evalO e k) (evalO e v))
    (fun t x P e M => evLoad P M t (evalO e x))
    (fun t x v P e M => evStore P M t (evalO e x) (evalO e v))
    (fun _ _ _ _ => .fail)
    (fun _ _ _ _ => .fail)
    (fun x _ e M => evNilCheck M (evalO e x))
    (fun op t x y _ P e M => evBin P M op t (evalO e x) (evalO e y))
    (fun op _ x _ e M => OpR.ofOpt M (unOp op (evalO e x)))
    (fun s d x P e M => evConvert P M s d (evalO e x))
    (fun _ _ _ _ _ => .fail)
    (fun t x P e M => evIface P M t (evalO e x))
    (fun f a b _ e M => evFunc e M f a b)
    (fun t r P e M => evMakeMap P e M t r)
    (fun _ _ _ _ _ => .fail)
    (fun t l c P e M => evMakeSlice P M t (evalO e l) (evalO e c))
    (fun t x lo hi mx P e M => evSlice P M t (evalO e x) (lo.map (evalO e)) (hi.map (evalO e)) (mx.map (evalO e)))
    (fun t x i P e M => evFieldAddr P M t (evalO e x) i)
    (fun t x i P e M => evField P M t (evalO e x) i)
    (fun t x i P e M => evIndexAddr P M t (evalO e x) (evalO e i))
    (fun t x i P e M => evIndex P M t (evalO e x) (evalO e i))
    (fun t x k ok P e M => evLookup P M t (evalO e x) (evalO e k) ok)
    (fun t m k v P e M => evMapUpdate P M t (evalO e m) (evalO e k) (evalO e v))
    (fun _ _ _ _ _ _ => .fail)
    (fun _ _ _ _ _ _ _ => .fail)
    (fun _ _ _ _ _ => .fail)
    (fun _ _ _ _ _ => .fail)
    (fun _ _ _ _ => .fail)
    (fun _ _ _ _ _ _ _ => .fail)
    (fun x i _ e M => evExtract M (evalO e x) i)
    (fun c P e M => evCallOp P e M c)
    (fun _ _ _ _ => .fail)
    (fun _ _ _ _ => .fail)
    (fun _ _ _ _ => .fail)
    (fun _ _ _ _ _ => .fail)
    (fun _ _ _ _ _ _ => .fail)
    (fun _ _ _ _ _ => .fail) o.op P e M

/-! Regions, code, calls -/

inductive Out where
  | normal (e : Env) (M : Mem)
  | exit (id : Nat) (e : Env) (M : Mem)
  | ret (e : Env) (M : Mem)
  | fail

/-- Whether an operation is carried out, as far as that can be told. -/
def wantB (want : Bool) : AVal → Option Bool
  | .bool b => some (b == want)
  | .tuple [] => some false
  | _ => none

def dstOf (ops : Array Oper) (j : Nat) : Option Tmp := (ops[j]?).bind (·.dst)

noncomputable def guardB (ops : Array Oper) (e : Env) (g : Option (Nat × Bool)) : Option Bool :=
  Option.casesOn (motive := fun _ => Option Bool) g (some true)
    (fun p => Option.casesOn (motive := fun _ => Option Bool) (dstOf ops p.1) (some false) (fun t => wantB p.2 (Env.at e t)))

abbrev Caller := FuncId → List AVal → Mem → Option (AVal × Mem)

def onCall (k : AVal → Mem → Out) : Option (AVal × Mem) → Out
  | some (v, M) => k v M
  | none => .fail

noncomputable def onOp (call : Caller) (M : Mem) (k : AVal → Mem → Out) (r : OpR) : Out :=
  OpR.rec (motive := fun _ => Out) k (fun f args => onCall k (call f args M)) .fail r

def skipVal : AVal := .tuple []

def onGuard (g : Option Bool) (no yes : Out) : Out :=
  match g with
  | some true => yes
  | some false => no
  | none => .fail

noncomputable def stepOp (call : Caller) (ops : Array Oper) (o : Oper) (ih : Env → Mem → Out) (e : Env) (M : Mem) : Out :=
  onGuard (guardB ops e o.guard) (ih (e.put o.dst skipVal) M)
    (onOp call M (fun v M' => ih (e.put o.dst v) M') (evOp P e M o))

noncomputable def evOps (call : Caller) (ops : Array Oper) (l : List Oper) : Env → Mem → Out :=
  List.rec (motive := fun _ => Env → Mem → Out) (fun e M => .normal e M) (fun o _ ih e M => stepOp P call ops o ih e M) l

/-! A region whose order is open: carried out in one order, what it reads looked at again behind each operation that acts -/

inductive Kind where
  | pure | alloc | read | act
  deriving DecidableEq

def kindOf (o : Oper) : Kind :=
  match o.op with
  | .move _ | .assign _ | .pick .. | .build .. | .nilCheck _ | .binOp .. | .unOp .. | .makeInterface .. | .makeFunc .. | .slice .. | .fieldAddr .. | .field .. | .indexAddr .. | .index .. | .extract .. => .pure
  | .alloc _ | .box .. | .buildSlice .. | .makeMap .. | .makeSlice .. => .alloc
  | .convert _ dst _ => match P.underlying dst with
    | some (.int _) => .pure
    | some .string => .read
    | _ => .alloc
  | .load .. | .lookup .. => .read
  | .call c => match c.callee with
    | .builtin .len => .read
    | .builtin .cap | .builtin .min | .builtin .max => .pure
    | _ => .act
  | _ => .act

def orBits (acc : List Nat) : List Edge → Nat
  | [] => 0
  | e :: es => match Region.binds .any e with
    | true => orBits acc es ||| 2 ^ e.on ||| acc.getD e.on 0
    | false => orBits acc es

/-- Behind which operations, one by one or through others, each operation stands. -/
def ancs : List Oper → List Nat → List Nat
  | [], acc => acc
  | o :: rest, acc => ancs rest (acc ++ [orBits acc o.after.toList])

/-- An order in which each operation that does not act comes as soon as it may. -/
def asap (bits : List Nat) (acts : List Bool) : Nat → Nat → List Nat → List Nat
  | 0, _, _ => []
  | f + 1, done, todo =>
    let ready := todo.filter fun i => Nat.beq (bits.getD i 0 &&& done) (bits.getD i 0)
    let pick := (ready.find? fun i => !acts.getD i true).orElse fun _ => ready.head?
    match pick with
    | some i => i :: asap bits acts f (done ||| 2 ^ i) (todo.filter fun j => !Nat.beq j i)
    | none => []

def bitsOf (ops : Array Oper) : List Nat := ancs ops.toList []
def actsOf (ops : Array Oper) : List Bool := ops.toList.map fun o => decide (kindOf P o = .act)
def orderOf (ops : Array Oper) : List Nat := asap (bitsOf ops) (actsOf P ops) ops.size 0 (List.range ops.size)

/-! What is asked of such a region, once and for all -/

def bitAt (bits : List Nat) (i j : Nat) : Bool := (bits.getD i 0).testBit j

/-- Each operation comes behind those that it waits for, and behind no acting one that it need not wait for. -/
def ordOk (ops : Array Oper) (bits : List Nat) : List Nat → List Nat → Bool
  | _, [] => true
  | done, i :: rest => match ops[i]? with
    | some o => (o.after.toList.all fun e => !Region.binds .any e || done.contains e.on) &&
        (done.all fun j => match ops[j]? with
          | some p => !decide (kindOf P p = .act) || bitAt bits i j
          | none => false) &&
        !done.contains i && ordOk ops bits (i :: done) rest
    | none => false

/-- A slot has one writer, and whoever looks at it is ordered against the writer. -/
def slotsOk (ops : Array Oper) (bits : List Nat) (n : Nat) : Bool :=
  (List.range n).all fun i => (List.range n).all fun j => Nat.beq i j || match ops[i]?, ops[j]? with
    | some a, some b => match a.dst with
      | some t => b.dst != some t && (!(Oper.looksAt ops b).contains t || bitAt bits i j || bitAt bits j i)
      | none => true
    | _, _ => false

/-- The bits are what they are to be. -/
def bitsOk (ops : Array Oper) (bits : List Nat) : Bool :=
  (List.range ops.size).all fun i => match ops[i]? with
    | some o => Nat.beq (bits.getD i 0) (orBits bits o.after.toList)
    | none => false

def drawOk (ops : Array Oper) : Bool :=
  let bits := bitsOf ops
  let ord := orderOf P ops
  Nat.beq ord.length ops.size && ordOk P ops bits [] ord && (List.range ops.size).all ord.contains && bitsOk ops bits && slotsOk ops bits ops.size

structure Seen where
  i : Nat
  o : Oper
  e : Env
  v : AVal

def sameVal (v : AVal) : OpR → Bool
  | .val u _ => AVal.beq u v
  | _ => false

/-- What was read reads as it did, unless it had to be read ahead of the operation that these bits belong to. -/
noncomputable def stillB (M : Mem) (bits : Nat) : List Seen → Bool
  | [] => true
  | s :: rest => match bits.testBit s.i || sameVal s.v (evOp P s.e M s.o) with
    | true => stillB M bits rest
    | false => false

def onStill (b : Bool) (k : Out) : Out :=
  match b with
  | true => k
  | false => .fail

noncomputable def stepDraw (call : Caller) (ops : Array Oper) (bits : List Nat) (i : Nat) (o : Oper) (ih : List Seen → Env → Mem → Out) (rs : List Seen) (e : Env) (M : Mem) : Out :=
  onGuard (guardB ops e o.guard) (ih rs (e.put o.dst skipVal) M)
    (onOp call M (fun v M' => match kindOf P o with
      | .act => onStill (stillB P M' (bits.getD i 0) rs) (ih rs (e.put o.dst v) M')
      | .read => ih (⟨i, o, e, v⟩ :: rs) (e.put o.dst v) M'
      | _ => ih rs (e.put o.dst v) M') (evOp P e M o))

noncomputable def evDraw (call : Caller) (ops : Array Oper) (bits : List Nat) (l : List Nat) : List Seen → Env → Mem → Out :=
  List.rec (motive := fun _ => List Seen → Env → Mem → Out) (fun _ e M => .normal e M)
    (fun i _ ih rs e M => Option.casesOn (motive := fun _ => Out) ops[i]? .fail (fun o => stepDraw P call ops bits i o ih rs e M)) l

noncomputable def evRegion (call : Caller) (ops : Array Oper) (draw : Bool) (e : Env) (M : Mem) : Out :=
  match draw with
  | false => evOps P call ops ops.toList e M
  | true => evDraw P call ops (bitsOf ops) (orderOf P ops) [] e M

noncomputable def resultV (e : Env) (M : Mem) : ResultVar → Option AVal
  | .tmp t => some (Env.at e t)
  | .cell a t => match Env.at e a with
    | .ptr x => loadVar P M t x
    | _ => none

noncomputable def resultsV (e : Env) (M : Mem) : List ResultVar → Option (List AVal)
  | [] => some []
  | r :: rs => match resultV P e M r with
    | some v => (resultsV e M rs).map (v :: ·)
    | none => none

def tupleOf : List AVal → AVal
  | [v] => v
  | vs => .tuple vs

noncomputable def results (fn : Func) (e : Env) (M : Mem) : Option AVal := (resultsV P e M fn.results.toList).map tupleOf

def thenOut (k : Env → Mem → Out) (r : Out) : Out :=
  Out.casesOn (motive := fun _ => Out) r k (fun id e M => .exit id e M) (fun e M => .ret e M) .fail

def condOut (v : AVal) (x y : Out) : Out :=
  match v with
  | .bool true => x
  | .bool false => y
  | _ => .fail

def blockOut (id : Nat) (r : Out) : Out :=
  Out.casesOn (motive := fun _ => Out) r (fun e M => .normal e M)
    (fun j e M => Bool.casesOn (motive := fun _ => Out) (Nat.beq j id) (.exit j e M) (.normal e M)) (fun e M => .ret e M) .fail

noncomputable def stepCode (call : Caller) (ih : Code → Env → Mem → Out) (c : Code) (e : Env) (M : Mem) : Out :=
  Code.casesOn (motive := fun _ => Program → Caller → (Code → Env → Mem → Out) → Env → Mem → Out) c
    (fun _ _ _ e M => .normal e M)
    (fun _ ops draw P call _ e M => evRegion P call ops draw e M)
    (fun a b _ _ ih e M => thenOut (ih b) (ih a e M))
    (fun x a b _ _ ih e M => condOut (evalO e x) (ih a e M) (ih b e M))
    (fun id b _ _ ih e M => blockOut id (ih b e M))
    (fun b _ _ ih e M => thenOut (ih (.loop b)) (ih b e M))
    (fun _ _ _ _ _ _ _ _ _ => .fail)
    (fun id _ _ _ e M => .exit id e M)
    (fun _ _ _ _ _ _ => .fail)
    (fun _ _ _ _ e M => .normal e M)
    (fun _ _ _ _ _ _ => .fail)
    (fun _ _ _ e M => .ret e M)
    (fun _ _ _ _ _ _ => .fail) P call ih e M

noncomputable def evCode (call : Caller) (n : Nat) : Code → Env → Mem → Out :=
  Nat.rec (motive := fun _ => Code → Env → Mem → Out) (fun _ _ _ => .fail) (fun _ ih c e M => stepCode P call ih c e M) n

/-- What is known of functions that are not walked: by number. -/
abbrev Lib := FuncId → Option (List AVal → Mem → Option (AVal × Mem))

noncomputable def endOut (fn : Func) (r : Out) : Option (AVal × Mem) :=
  match r with
  | .normal e M => (results P fn e M).map (·, M)
  | .ret e M => (results P fn e M).map (·, M)
  | _ => none

noncomputable def runFunc (K : Nat) (call : Caller) (f : FuncId) (args : List AVal) (M : Mem) : Option (AVal × Mem) :=
  match P.funcs[f]? with
  | some fn => match fn.body with
    | some c => endOut P fn (evCode P call K c (Env.ofArgs args 0 .leaf) M)
    | none => none
  | none => none

noncomputable def stepCall (L : Lib) (K : Nat) (ih : Caller) (f : FuncId) (args : List AVal) (M : Mem) : Option (AVal × Mem) :=
  match L f with
  | some g => g args M
  | none => runFunc P K ih f args M

noncomputable def evCall (L : Lib) (K n : Nat) : Caller :=
  Nat.rec (motive := fun _ => Caller) (fun _ _ _ => none) (fun _ ih f args M => stepCall P L K ih f args M) n

end
end Go.VE
