/-
  Part of a proof over this seat: see the last text.
-/
import Derived.Test.YtiikicpepnaghaaGreatDoorVeReps
import Derived.Test.YtiikicpepnaghaaGreatDoorW44
import Derived.KernelRfl
set_option linter.unusedSimpArgs false
set_option linter.unusedVariables false
open Go Go.VE
namespace Go.Proofs.Tryz.W
theorem ag2 : agg? prog 2 = some false := by kernel_rfl
theorem sz2 : size? prog 2 = some 1 := by kernel_rfl
theorem un2 : prog.underlying 2 = some (.int .i64) := by kernel_rfl
theorem ag3 : agg? prog 3 = some false := by kernel_rfl
theorem sz3 : size? prog 3 = some 1 := by kernel_rfl
theorem un3 : prog.underlying 3 = some (.int .i64) := by kernel_rfl
theorem ag4 : agg? prog 4 = some false := by kernel_rfl
theorem sz4 : size? prog 4 = some 1 := by kernel_rfl
theorem un4 : prog.underlying 4 = some .bool := by kernel_rfl
theorem ag5 : agg? prog 5 = some false := by kernel_rfl
theorem sz5 : size? prog 5 = some 1 := by kernel_rfl
theorem un5 : prog.underlying 5 = some (.int .u8) := by kernel_rfl
theorem ag22 : agg? prog 22 = some false := by kernel_rfl
theorem sz22 : size? prog 22 = some 1 := by kernel_rfl
theorem un22 : prog.underlying 22 = some (.slice 45) := by kernel_rfl
theorem ag23 : agg? prog 23 = some false := by kernel_rfl
theorem sz23 : size? prog 23 = some 1 := by kernel_rfl
theorem un23 : prog.underlying 23 = some (.slice 210) := by kernel_rfl
theorem ag24 : agg? prog 24 = some false := by kernel_rfl
theorem sz24 : size? prog 24 = some 1 := by kernel_rfl
theorem un24 : prog.underlying 24 = some (.int .u64) := by kernel_rfl
theorem ag27 : agg? prog 27 = some false := by kernel_rfl
theorem sz27 : size? prog 27 = some 1 := by kernel_rfl
theorem ag28 : agg? prog 28 = some false := by kernel_rfl
theorem sz28 : size? prog 28 = some 1 := by kernel_rfl
theorem un28 : prog.underlying 28 = some (.int .i64) := by kernel_rfl
theorem ag35 : agg? prog 35 = some true := by kernel_rfl
theorem sz35 : size? prog 35 = some 5 := by kernel_rfl
theorem ag39 : agg? prog 39 = some true := by kernel_rfl
theorem sz39 : size? prog 39 = some 3 := by kernel_rfl
theorem ag41 : agg? prog 41 = some true := by kernel_rfl
theorem sz41 : size? prog 41 = some 2 := by kernel_rfl
theorem ag42 : agg? prog 42 = some false := by kernel_rfl
theorem sz42 : size? prog 42 = some 1 := by kernel_rfl
theorem un42 : prog.underlying 42 = some (.slice 61) := by kernel_rfl
theorem ag43 : agg? prog 43 = some false := by kernel_rfl
theorem sz43 : size? prog 43 = some 1 := by kernel_rfl
theorem un43 : prog.underlying 43 = some (.slice 205) := by kernel_rfl
theorem ag45 : agg? prog 45 = some true := by kernel_rfl
theorem sz45 : size? prog 45 = some 7 := by kernel_rfl
theorem ag48 : agg? prog 48 = some false := by kernel_rfl
theorem sz48 : size? prog 48 = some 1 := by kernel_rfl
theorem un48 : prog.underlying 48 = some (.slice 3) := by kernel_rfl
theorem ag56 : agg? prog 56 = some false := by kernel_rfl
theorem sz56 : size? prog 56 = some 1 := by kernel_rfl
theorem un56 : prog.underlying 56 = some (.slice 2) := by kernel_rfl
theorem ag61 : agg? prog 61 = some true := by kernel_rfl
theorem sz61 : size? prog 61 = some 3 := by kernel_rfl
theorem ag100 : agg? prog 100 = some false := by kernel_rfl
theorem sz100 : size? prog 100 = some 1 := by kernel_rfl
theorem un100 : prog.underlying 100 = some (.slice 105) := by kernel_rfl
theorem sz105 : size? prog 105 = some 1 := by kernel_rfl
theorem ag105 : agg? prog 105 = some false := by kernel_rfl
theorem ag101 : agg? prog 101 = some false := by kernel_rfl
theorem sz101 : size? prog 101 = some 1 := by kernel_rfl
theorem ag104 : agg? prog 104 = some false := by kernel_rfl
theorem sz104 : size? prog 104 = some 1 := by kernel_rfl
theorem un104 : prog.underlying 104 = some (.slice 41) := by kernel_rfl
theorem ag110 : agg? prog 110 = some false := by kernel_rfl
theorem sz110 : size? prog 110 = some 1 := by kernel_rfl
theorem ag111 : agg? prog 111 = some false := by kernel_rfl
theorem sz111 : size? prog 111 = some 1 := by kernel_rfl
theorem un111 : prog.underlying 111 = some (.slice 115) := by kernel_rfl
theorem sz115 : size? prog 115 = some 1 := by kernel_rfl
theorem ag115 : agg? prog 115 = some false := by kernel_rfl
theorem ag112 : agg? prog 112 = some false := by kernel_rfl
theorem sz112 : size? prog 112 = some 1 := by kernel_rfl
theorem un112 : prog.underlying 112 = some (.slice 118) := by kernel_rfl
theorem sz118 : size? prog 118 = some 1 := by kernel_rfl
theorem ag118 : agg? prog 118 = some false := by kernel_rfl
theorem ag124 : agg? prog 124 = some true := by kernel_rfl
theorem sz124 : size? prog 124 = some 3 := by kernel_rfl
theorem ag128 : agg? prog 128 = some false := by kernel_rfl
theorem sz128 : size? prog 128 = some 1 := by kernel_rfl
theorem un128 : prog.underlying 128 = some (.int .u64) := by kernel_rfl
theorem ag129 : agg? prog 129 = some false := by kernel_rfl
theorem sz129 : size? prog 129 = some 1 := by kernel_rfl
theorem ag130 : agg? prog 130 = some false := by kernel_rfl
theorem sz130 : size? prog 130 = some 1 := by kernel_rfl
theorem ag205 : agg? prog 205 = some true := by kernel_rfl
theorem sz205 : size? prog 205 = some 3 := by kernel_rfl
theorem ag210 : agg? prog 210 = some true := by kernel_rfl
theorem sz210 : size? prog 210 = some 3 := by kernel_rfl
theorem ag217 : agg? prog 217 = some false := by kernel_rfl
theorem sz217 : size? prog 217 = some 1 := by kernel_rfl
theorem un217 : prog.underlying 217 = some (.slice 4) := by kernel_rfl
theorem pl35 : places prog 35 = some [(0, 1), (1, 1), (2, 1), (3, 1), (4, 1)] := by kernel_rfl
theorem zr35 : zeroC prog 35 = some [.nilSlice, .nilSlice, .int .i64 0, .int .i64 0, .int .u64 0] := by kernel_rfl
theorem pl39 : places prog 39 = some [(0, 1), (1, 1), (2, 1)] := by kernel_rfl
theorem zr39 : zeroC prog 39 = some [.int .i64 0, .int .i64 0, .int .i64 0] := by kernel_rfl
theorem pl41 : places prog 41 = some [(0, 1), (1, 1)] := by kernel_rfl
theorem zr41 : zeroC prog 41 = some [.int .i64 0, .int .i64 0] := by kernel_rfl
theorem pl45 : places prog 45 = some [(0, 2), (2, 1), (3, 3), (6, 1)] := by kernel_rfl
theorem zr45 : zeroC prog 45 = some [.int .i64 0, .int .i64 0, .nilSlice, .int .i64 0, .int .i64 0, .int .i64 0, .nilSlice] := by kernel_rfl
theorem pl61 : places prog 61 = some [(0, 1), (1, 1), (2, 1)] := by kernel_rfl
theorem zr61 : zeroC prog 61 = some [.int .u64 0, .int .u64 0, .int .u64 0] := by kernel_rfl
theorem pl103 : places prog 103 = some [(0, 1), (1, 1), (2, 1)] := by kernel_rfl
theorem zr103 : zeroC prog 103 = some [.nilSlice, .int .u64 0, .nilPtr] := by kernel_rfl
theorem pl114 : places prog 114 = some [(0, 1), (1, 1), (2, 1), (3, 1), (4, 1), (5, 1), (6, 1), (7, 1), (8, 1), (9, 1)] := by kernel_rfl
theorem zr114 : zeroC prog 114 = some [.nilSlice, .int .i64 0, .int .i64 0, .int .u64 0, .nilPtr, .nilSlice, .nilSlice, .nilSlice, .nilSlice, .nilSlice] := by kernel_rfl
theorem pl124 : places prog 124 = some [(0, 1), (1, 1), (2, 1)] := by kernel_rfl
theorem zr124 : zeroC prog 124 = some [.nilSlice, .nilSlice, .int .i64 0] := by kernel_rfl
theorem pl132 : places prog 132 = some [(0, 1), (1, 3), (4, 1), (5, 1), (6, 1), (7, 1), (8, 1), (9, 1), (10, 1)] := by kernel_rfl
theorem zr132 : zeroC prog 132 = some [.nilSlice, .int .i64 0, .int .i64 0, .int .i64 0, .nilSlice, .int .u64 0, .int .i64 0, .int .i64 0, .nilPtr, .nilPtr, .int .i64 0] := by kernel_rfl
theorem pl205 : places prog 205 = some [(0, 1), (1, 1), (2, 1)] := by kernel_rfl
theorem zr205 : zeroC prog 205 = some [.int .i64 0, .int .i64 0, .int .i64 0] := by kernel_rfl
theorem pl210 : places prog 210 = some [(0, 1), (1, 1), (2, 1)] := by kernel_rfl
theorem zr210 : zeroC prog 210 = some [.int .i64 0, .int .i64 0, .int .i64 0] := by kernel_rfl
theorem pl212 : places prog 212 = some [(0, 1), (1, 1), (2, 1), (3, 1), (4, 1)] := by kernel_rfl
theorem zr212 : zeroC prog 212 = some [.nilSlice, .nilSlice, .int .i64 0, .nilSlice, .int .i64 0] := by kernel_rfl
theorem pl215 : places prog 215 = some [(0, 1), (1, 3), (4, 1), (5, 1), (6, 1), (7, 1)] := by kernel_rfl
theorem zr215 : zeroC prog 215 = some [.nilSlice, .int .i64 0, .int .i64 0, .int .i64 0, .int .i64 0, .int .i64 0, .int .i64 0, .int .i64 0] := by kernel_rfl
theorem pl219 : places prog 219 = some [(0, 1), (1, 1), (2, 1), (3, 1)] := by kernel_rfl
theorem zr219 : zeroC prog 219 = some [.nilSlice, .nilSlice, .int .i64 0, .int .i64 0] := by kernel_rfl
theorem pl221 : places prog 221 = some [(0, 1), (1, 1), (2, 1), (3, 1), (4, 1)] := by kernel_rfl
theorem zr221 : zeroC prog 221 = some [.nilSlice, .nilSlice, .int .i64 0, .nilSlice, .int .i64 0] := by kernel_rfl
theorem pl232 : places prog 232 = some [(0, 1), (1, 1), (2, 1), (3, 1)] := by kernel_rfl
theorem zr232 : zeroC prog 232 = some [.nilSlice, .nilSlice, .int .i64 0, .int .i64 0] := by kernel_rfl
theorem pl238 : places prog 238 = some [(0, 1), (1, 3), (4, 1), (5, 1), (6, 1), (7, 1)] := by kernel_rfl
theorem zr238 : zeroC prog 238 = some [.nilSlice, .int .i64 0, .int .i64 0, .int .i64 0, .int .i64 0, .int .i64 0, .int .i64 0, .int .i64 0] := by kernel_rfl
theorem fa35_0 (M : Mem) (a : AAddr) : evFieldAddr prog M 35 (.ptr a) 0 = .val (.ptr ⟨a.id, a.off + 0, a.ep, a.lim⟩) M := by kernel_rfl
theorem fa35_1 (M : Mem) (a : AAddr) : evFieldAddr prog M 35 (.ptr a) 1 = .val (.ptr ⟨a.id, a.off + 1, a.ep, a.lim⟩) M := by kernel_rfl
theorem fa35_2 (M : Mem) (a : AAddr) : evFieldAddr prog M 35 (.ptr a) 2 = .val (.ptr ⟨a.id, a.off + 2, a.ep, a.lim⟩) M := by kernel_rfl
theorem fa35_3 (M : Mem) (a : AAddr) : evFieldAddr prog M 35 (.ptr a) 3 = .val (.ptr ⟨a.id, a.off + 3, a.ep, a.lim⟩) M := by kernel_rfl
theorem fa35_4 (M : Mem) (a : AAddr) : evFieldAddr prog M 35 (.ptr a) 4 = .val (.ptr ⟨a.id, a.off + 4, a.ep, a.lim⟩) M := by kernel_rfl
theorem fa39_0 (M : Mem) (a : AAddr) : evFieldAddr prog M 39 (.ptr a) 0 = .val (.ptr ⟨a.id, a.off + 0, a.ep, a.lim⟩) M := by kernel_rfl
theorem fa39_1 (M : Mem) (a : AAddr) : evFieldAddr prog M 39 (.ptr a) 1 = .val (.ptr ⟨a.id, a.off + 1, a.ep, a.lim⟩) M := by kernel_rfl
theorem fa39_2 (M : Mem) (a : AAddr) : evFieldAddr prog M 39 (.ptr a) 2 = .val (.ptr ⟨a.id, a.off + 2, a.ep, a.lim⟩) M := by kernel_rfl
theorem fa41_0 (M : Mem) (a : AAddr) : evFieldAddr prog M 41 (.ptr a) 0 = .val (.ptr ⟨a.id, a.off + 0, a.ep, a.lim⟩) M := by kernel_rfl
theorem fa41_1 (M : Mem) (a : AAddr) : evFieldAddr prog M 41 (.ptr a) 1 = .val (.ptr ⟨a.id, a.off + 1, a.ep, a.lim⟩) M := by kernel_rfl
theorem fa45_0 (M : Mem) (a : AAddr) : evFieldAddr prog M 45 (.ptr a) 0 = .val (.ptr ⟨a.id, a.off + 0, a.ep, a.lim⟩) M := by kernel_rfl
theorem fa45_1 (M : Mem) (a : AAddr) : evFieldAddr prog M 45 (.ptr a) 1 = .val (.ptr ⟨a.id, a.off + 2, a.ep, a.lim⟩) M := by kernel_rfl
theorem fa45_2 (M : Mem) (a : AAddr) : evFieldAddr prog M 45 (.ptr a) 2 = .val (.ptr ⟨a.id, a.off + 3, a.ep, a.lim⟩) M := by kernel_rfl
theorem fa45_3 (M : Mem) (a : AAddr) : evFieldAddr prog M 45 (.ptr a) 3 = .val (.ptr ⟨a.id, a.off + 6, a.ep, a.lim⟩) M := by kernel_rfl
theorem fa61_0 (M : Mem) (a : AAddr) : evFieldAddr prog M 61 (.ptr a) 0 = .val (.ptr ⟨a.id, a.off + 0, a.ep, a.lim⟩) M := by kernel_rfl
theorem fa61_1 (M : Mem) (a : AAddr) : evFieldAddr prog M 61 (.ptr a) 1 = .val (.ptr ⟨a.id, a.off + 1, a.ep, a.lim⟩) M := by kernel_rfl
theorem fa61_2 (M : Mem) (a : AAddr) : evFieldAddr prog M 61 (.ptr a) 2 = .val (.ptr ⟨a.id, a.off + 2, a.ep, a.lim⟩) M := by kernel_rfl
theorem fa103_0 (M : Mem) (a : AAddr) : evFieldAddr prog M 103 (.ptr a) 0 = .val (.ptr ⟨a.id, a.off + 0, a.ep, a.lim⟩) M := by kernel_rfl
theorem fa103_2 (M : Mem) (a : AAddr) : evFieldAddr prog M 103 (.ptr a) 2 = .val (.ptr ⟨a.id, a.off + 2, a.ep, a.lim⟩) M := by kernel_rfl
theorem fa114_0 (M : Mem) (a : AAddr) : evFieldAddr prog M 114 (.ptr a) 0 = .val (.ptr ⟨a.id, a.off + 0, a.ep, a.lim⟩) M := by kernel_rfl
theorem fa114_4 (M : Mem) (a : AAddr) : evFieldAddr prog M 114 (.ptr a) 4 = .val (.ptr ⟨a.id, a.off + 4, a.ep, a.lim⟩) M := by kernel_rfl
theorem fa114_5 (M : Mem) (a : AAddr) : evFieldAddr prog M 114 (.ptr a) 5 = .val (.ptr ⟨a.id, a.off + 5, a.ep, a.lim⟩) M := by kernel_rfl
theorem fa114_6 (M : Mem) (a : AAddr) : evFieldAddr prog M 114 (.ptr a) 6 = .val (.ptr ⟨a.id, a.off + 6, a.ep, a.lim⟩) M := by kernel_rfl
theorem fa114_7 (M : Mem) (a : AAddr) : evFieldAddr prog M 114 (.ptr a) 7 = .val (.ptr ⟨a.id, a.off + 7, a.ep, a.lim⟩) M := by kernel_rfl
theorem fa124_0 (M : Mem) (a : AAddr) : evFieldAddr prog M 124 (.ptr a) 0 = .val (.ptr ⟨a.id, a.off + 0, a.ep, a.lim⟩) M := by kernel_rfl
theorem fa124_1 (M : Mem) (a : AAddr) : evFieldAddr prog M 124 (.ptr a) 1 = .val (.ptr ⟨a.id, a.off + 1, a.ep, a.lim⟩) M := by kernel_rfl
theorem fa124_2 (M : Mem) (a : AAddr) : evFieldAddr prog M 124 (.ptr a) 2 = .val (.ptr ⟨a.id, a.off + 2, a.ep, a.lim⟩) M := by kernel_rfl
theorem fa132_0 (M : Mem) (a : AAddr) : evFieldAddr prog M 132 (.ptr a) 0 = .val (.ptr ⟨a.id, a.off + 0, a.ep, a.lim⟩) M := by kernel_rfl
theorem fa132_1 (M : Mem) (a : AAddr) : evFieldAddr prog M 132 (.ptr a) 1 = .val (.ptr ⟨a.id, a.off + 1, a.ep, a.lim⟩) M := by kernel_rfl
theorem fa132_2 (M : Mem) (a : AAddr) : evFieldAddr prog M 132 (.ptr a) 2 = .val (.ptr ⟨a.id, a.off + 4, a.ep, a.lim⟩) M := by kernel_rfl
theorem fa132_6 (M : Mem) (a : AAddr) : evFieldAddr prog M 132 (.ptr a) 6 = .val (.ptr ⟨a.id, a.off + 8, a.ep, a.lim⟩) M := by kernel_rfl
theorem fa132_7 (M : Mem) (a : AAddr) : evFieldAddr prog M 132 (.ptr a) 7 = .val (.ptr ⟨a.id, a.off + 9, a.ep, a.lim⟩) M := by kernel_rfl
theorem fa132_8 (M : Mem) (a : AAddr) : evFieldAddr prog M 132 (.ptr a) 8 = .val (.ptr ⟨a.id, a.off + 10, a.ep, a.lim⟩) M := by kernel_rfl
theorem fa205_0 (M : Mem) (a : AAddr) : evFieldAddr prog M 205 (.ptr a) 0 = .val (.ptr ⟨a.id, a.off + 0, a.ep, a.lim⟩) M := by kernel_rfl
theorem fa205_1 (M : Mem) (a : AAddr) : evFieldAddr prog M 205 (.ptr a) 1 = .val (.ptr ⟨a.id, a.off + 1, a.ep, a.lim⟩) M := by kernel_rfl
theorem fa205_2 (M : Mem) (a : AAddr) : evFieldAddr prog M 205 (.ptr a) 2 = .val (.ptr ⟨a.id, a.off + 2, a.ep, a.lim⟩) M := by kernel_rfl
theorem fa210_0 (M : Mem) (a : AAddr) : evFieldAddr prog M 210 (.ptr a) 0 = .val (.ptr ⟨a.id, a.off + 0, a.ep, a.lim⟩) M := by kernel_rfl
theorem fa210_1 (M : Mem) (a : AAddr) : evFieldAddr prog M 210 (.ptr a) 1 = .val (.ptr ⟨a.id, a.off + 1, a.ep, a.lim⟩) M := by kernel_rfl
theorem fa210_2 (M : Mem) (a : AAddr) : evFieldAddr prog M 210 (.ptr a) 2 = .val (.ptr ⟨a.id, a.off + 2, a.ep, a.lim⟩) M := by kernel_rfl
theorem fa212_3 (M : Mem) (a : AAddr) : evFieldAddr prog M 212 (.ptr a) 3 = .val (.ptr ⟨a.id, a.off + 3, a.ep, a.lim⟩) M := by kernel_rfl
theorem fa221_3 (M : Mem) (a : AAddr) : evFieldAddr prog M 221 (.ptr a) 3 = .val (.ptr ⟨a.id, a.off + 3, a.ep, a.lim⟩) M := by kernel_rfl
end Go.Proofs.Tryz.W
