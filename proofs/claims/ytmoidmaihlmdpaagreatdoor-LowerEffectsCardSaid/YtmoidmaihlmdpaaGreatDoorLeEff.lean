/-
  Part of a proof over this seat: see the last text.
-/
import Derived.Test.YtmoidmaihlmdpaaGreatDoorW1
import Derived.Test.YtmoidmaihlmdpaaGreatDoorVeGround
open Go Go.VE
namespace Go.Proofs.Tryz.W
def T (a b : Int) (c : Bool) : AVal := .tuple [.int .i64 a, .int .i64 b, .bool c]
def I (op v : Int) (s : List UInt8) : AVal := .agg [.int .i64 op, .int .u64 v, .str s]
def Ef (C : Caller) (op v : Int) (s : List UInt8) (a b : Int) (c : Bool) : Prop := (J14_0 C (argsF [I op v s]) .empty).map (·.1) = some (T a b c) ∧ (J15_0 C (argsF [I op v s]) .empty).map (·.1) = some (T a b c)
section
variable (C : Caller) (s : List UInt8) 
theorem e_neg (n : Nat) (v : Nat) : Ef C (.negSucc n) (.ofNat v) s 0 0 false := ⟨by kernel_rfl, by kernel_rfl⟩
theorem e_big (n : Nat) (v : Nat) : Ef C (.ofNat (n + 37)) (.ofNat v) s 0 0 false := ⟨by kernel_rfl, by kernel_rfl⟩
theorem e_0 (v : Nat) : Ef C (.ofNat 0) (.ofNat v) s 0 0 false := ⟨by kernel_rfl, by kernel_rfl⟩
theorem e_1 (v : Nat) : Ef C (.ofNat 1) (.ofNat v) s 0 1 true := ⟨by kernel_rfl, by kernel_rfl⟩
theorem e_2 (v : Nat) : Ef C (.ofNat 2) (.ofNat v) s 0 1 true := ⟨by kernel_rfl, by kernel_rfl⟩
theorem e_3 (v : Nat) : Ef C (.ofNat 3) (.ofNat v) s 0 1 true := ⟨by kernel_rfl, by kernel_rfl⟩
theorem e_4 (v : Nat) : Ef C (.ofNat 4) (.ofNat v) s 0 1 true := ⟨by kernel_rfl, by kernel_rfl⟩
theorem e_5 (v : Nat) : Ef C (.ofNat 5) (.ofNat v) s (IntKind.i64.wrap (Int.tmod (.ofNat v) 256)) 1 true := ⟨by kernel_rfl, by kernel_rfl⟩
theorem e_6 (v : Nat) : Ef C (.ofNat 6) (.ofNat v) s 0 1 true := ⟨by kernel_rfl, by kernel_rfl⟩
theorem e_7 (v : Nat) : Ef C (.ofNat 7) (.ofNat v) s 0 1 true := ⟨by kernel_rfl, by kernel_rfl⟩
theorem e_8 (v : Nat) : Ef C (.ofNat 8) (.ofNat v) s 0 1 true := ⟨by kernel_rfl, by kernel_rfl⟩
theorem e_9 (v : Nat) : Ef C (.ofNat 9) (.ofNat v) s 1 0 true := ⟨by kernel_rfl, by kernel_rfl⟩
theorem e_10 (v : Nat) : Ef C (.ofNat 10) (.ofNat v) s 1 0 true := ⟨by kernel_rfl, by kernel_rfl⟩
theorem e_11 (v : Nat) : Ef C (.ofNat 11) (.ofNat v) s 1 0 true := ⟨by kernel_rfl, by kernel_rfl⟩
theorem e_12 (v : Nat) : Ef C (.ofNat 12) (.ofNat v) s 2 0 true := ⟨by kernel_rfl, by kernel_rfl⟩
theorem e_13 (v : Nat) : Ef C (.ofNat 13) (.ofNat v) s 0 1 true := ⟨by kernel_rfl, by kernel_rfl⟩
theorem e_14 (v : Nat) : Ef C (.ofNat 14) (.ofNat v) s 0 1 true := ⟨by kernel_rfl, by kernel_rfl⟩
theorem e_15 (v : Nat) : Ef C (.ofNat 15) (.ofNat v) s 0 1 true := ⟨by kernel_rfl, by kernel_rfl⟩
theorem e_16 (v : Nat) : Ef C (.ofNat 16) (.ofNat v) s 2 1 true := ⟨by kernel_rfl, by kernel_rfl⟩
theorem e_17 (v : Nat) : Ef C (.ofNat 17) (.ofNat v) s 1 1 true := ⟨by kernel_rfl, by kernel_rfl⟩
theorem e_18 (v : Nat) : Ef C (.ofNat 18) (.ofNat v) s 1 1 true := ⟨by kernel_rfl, by kernel_rfl⟩
theorem e_19 (v : Nat) : Ef C (.ofNat 19) (.ofNat v) s 2 1 true := ⟨by kernel_rfl, by kernel_rfl⟩
theorem e_20 (v : Nat) : Ef C (.ofNat 20) (.ofNat v) s 3 1 true := ⟨by kernel_rfl, by kernel_rfl⟩
theorem e_21 (v : Nat) : Ef C (.ofNat 21) (.ofNat v) s 1 1 true := ⟨by kernel_rfl, by kernel_rfl⟩
theorem e_22 (v : Nat) : Ef C (.ofNat 22) (.ofNat v) s 0 1 true := ⟨by kernel_rfl, by kernel_rfl⟩
theorem e_23 (v : Nat) : Ef C (.ofNat 23) (.ofNat v) s 0 1 true := ⟨by kernel_rfl, by kernel_rfl⟩
theorem e_24 (v : Nat) : Ef C (.ofNat 24) (.ofNat v) s 0 0 true := ⟨by kernel_rfl, by kernel_rfl⟩
theorem e_25 (v : Nat) : Ef C (.ofNat 25) (.ofNat v) s 1 0 true := ⟨by kernel_rfl, by kernel_rfl⟩
theorem e_26 (v : Nat) : Ef C (.ofNat 26) (.ofNat v) s 1 0 true := ⟨by kernel_rfl, by kernel_rfl⟩
theorem e_27_0 : Ef C (.ofNat 27) (.ofNat 0) s 0 1 true := ⟨by kernel_rfl, by kernel_rfl⟩
theorem e_27_1 : Ef C (.ofNat 27) (.ofNat 1) s 1 1 true := ⟨by kernel_rfl, by kernel_rfl⟩
theorem e_27_2 : Ef C (.ofNat 27) (.ofNat 2) s 2 1 true := ⟨by kernel_rfl, by kernel_rfl⟩
theorem e_27_3 : Ef C (.ofNat 27) (.ofNat 3) s 3 1 true := ⟨by kernel_rfl, by kernel_rfl⟩
theorem e_27_4 : Ef C (.ofNat 27) (.ofNat 4) s 4 1 true := ⟨by kernel_rfl, by kernel_rfl⟩
theorem e_27_5 : Ef C (.ofNat 27) (.ofNat 5) s 5 1 true := ⟨by kernel_rfl, by kernel_rfl⟩
theorem e_27_6 : Ef C (.ofNat 27) (.ofNat 6) s 6 1 true := ⟨by kernel_rfl, by kernel_rfl⟩
theorem e_27_7 : Ef C (.ofNat 27) (.ofNat 7) s 7 1 true := ⟨by kernel_rfl, by kernel_rfl⟩
theorem e_27_big (v : Nat) : Ef C (.ofNat 27) (.ofNat (v + 8)) s 0 0 false := ⟨by kernel_rfl, by kernel_rfl⟩
theorem e_28_0 : Ef C (.ofNat 28) (.ofNat 0) s 0 0 true := ⟨by kernel_rfl, by kernel_rfl⟩
theorem e_28_1 : Ef C (.ofNat 28) (.ofNat 1) s 1 0 true := ⟨by kernel_rfl, by kernel_rfl⟩
theorem e_28_big (v : Nat) : Ef C (.ofNat 28) (.ofNat (v + 2)) s 0 0 false := ⟨by kernel_rfl, by kernel_rfl⟩
theorem e_29 (v : Nat) : Ef C (.ofNat 29) (.ofNat v) s 0 1 true := ⟨by kernel_rfl, by kernel_rfl⟩
theorem e_30 (v : Nat) : Ef C (.ofNat 30) (.ofNat v) s 0 0 true := ⟨by kernel_rfl, by kernel_rfl⟩
theorem e_31 (v : Nat) : Ef C (.ofNat 31) (.ofNat v) s 1 1 true := ⟨by kernel_rfl, by kernel_rfl⟩
theorem e_32 (v : Nat) : Ef C (.ofNat 32) (.ofNat v) s 0 0 true := ⟨by kernel_rfl, by kernel_rfl⟩
theorem e_33 (v : Nat) : Ef C (.ofNat 33) (.ofNat v) s 0 0 true := ⟨by kernel_rfl, by kernel_rfl⟩
theorem e_34 (v : Nat) : Ef C (.ofNat 34) (.ofNat v) s 1 0 true := ⟨by kernel_rfl, by kernel_rfl⟩
theorem e_35 (v : Nat) : Ef C (.ofNat 35) (.ofNat v) s 1 0 true := ⟨by kernel_rfl, by kernel_rfl⟩
theorem e_36 (v : Nat) : Ef C (.ofNat 36) (.ofNat v) s 0 0 false := ⟨by kernel_rfl, by kernel_rfl⟩
theorem ef_any (op : Int) (v : Nat) : ∃ a b c, Ef C op (.ofNat v) s a b c :=
  match op with
  | .negSucc n => ⟨_, _, _, e_neg C s n v⟩
  | .ofNat 0 => ⟨_, _, _, e_0 C s v⟩
  | .ofNat 1 => ⟨_, _, _, e_1 C s v⟩
  | .ofNat 2 => ⟨_, _, _, e_2 C s v⟩
  | .ofNat 3 => ⟨_, _, _, e_3 C s v⟩
  | .ofNat 4 => ⟨_, _, _, e_4 C s v⟩
  | .ofNat 5 => ⟨_, _, _, e_5 C s v⟩
  | .ofNat 6 => ⟨_, _, _, e_6 C s v⟩
  | .ofNat 7 => ⟨_, _, _, e_7 C s v⟩
  | .ofNat 8 => ⟨_, _, _, e_8 C s v⟩
  | .ofNat 9 => ⟨_, _, _, e_9 C s v⟩
  | .ofNat 10 => ⟨_, _, _, e_10 C s v⟩
  | .ofNat 11 => ⟨_, _, _, e_11 C s v⟩
  | .ofNat 12 => ⟨_, _, _, e_12 C s v⟩
  | .ofNat 13 => ⟨_, _, _, e_13 C s v⟩
  | .ofNat 14 => ⟨_, _, _, e_14 C s v⟩
  | .ofNat 15 => ⟨_, _, _, e_15 C s v⟩
  | .ofNat 16 => ⟨_, _, _, e_16 C s v⟩
  | .ofNat 17 => ⟨_, _, _, e_17 C s v⟩
  | .ofNat 18 => ⟨_, _, _, e_18 C s v⟩
  | .ofNat 19 => ⟨_, _, _, e_19 C s v⟩
  | .ofNat 20 => ⟨_, _, _, e_20 C s v⟩
  | .ofNat 21 => ⟨_, _, _, e_21 C s v⟩
  | .ofNat 22 => ⟨_, _, _, e_22 C s v⟩
  | .ofNat 23 => ⟨_, _, _, e_23 C s v⟩
  | .ofNat 24 => ⟨_, _, _, e_24 C s v⟩
  | .ofNat 25 => ⟨_, _, _, e_25 C s v⟩
  | .ofNat 26 => ⟨_, _, _, e_26 C s v⟩
  | .ofNat 27 => match v with
    | 0 => ⟨_, _, _, e_27_0 C s⟩
    | 1 => ⟨_, _, _, e_27_1 C s⟩
    | 2 => ⟨_, _, _, e_27_2 C s⟩
    | 3 => ⟨_, _, _, e_27_3 C s⟩
    | 4 => ⟨_, _, _, e_27_4 C s⟩
    | 5 => ⟨_, _, _, e_27_5 C s⟩
    | 6 => ⟨_, _, _, e_27_6 C s⟩
    | 7 => ⟨_, _, _, e_27_7 C s⟩
    | v + 8 => ⟨_, _, _, e_27_big C s v⟩
  | .ofNat 28 => match v with
    | 0 => ⟨_, _, _, e_28_0 C s⟩
    | 1 => ⟨_, _, _, e_28_1 C s⟩
    | v + 2 => ⟨_, _, _, e_28_big C s v⟩
  | .ofNat 29 => ⟨_, _, _, e_29 C s v⟩
  | .ofNat 30 => ⟨_, _, _, e_30 C s v⟩
  | .ofNat 31 => ⟨_, _, _, e_31 C s v⟩
  | .ofNat 32 => ⟨_, _, _, e_32 C s v⟩
  | .ofNat 33 => ⟨_, _, _, e_33 C s v⟩
  | .ofNat 34 => ⟨_, _, _, e_34 C s v⟩
  | .ofNat 35 => ⟨_, _, _, e_35 C s v⟩
  | .ofNat 36 => ⟨_, _, _, e_36 C s v⟩
  | .ofNat (n + 37) => ⟨_, _, _, e_big C s n v⟩
end
end Go.Proofs.Tryz.W
