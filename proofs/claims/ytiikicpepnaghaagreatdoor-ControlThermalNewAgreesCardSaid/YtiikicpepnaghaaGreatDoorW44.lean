/-
  Part of a proof over this seat: see the last text.
-/
import Derived.Test.YtiikicpepnaghaaGreatDoorW44a
import Derived.Test.YtiikicpepnaghaaGreatDoorVeFix
import Derived.Test.YtiikicpepnaghaaGreatDoorVeCut
import Derived.Test.YtiikicpepnaghaaGreatDoorProg
import Derived.KernelRfl
set_option linter.unusedVariables false
open Go Go.VE
namespace Go.Proofs.Tryz.W
/-! platformfw/platformfwlaw36.Table -/
noncomputable def c46 : Code := bodyOf f46
noncomputable def J46_0 (C : Caller) : Kn := codeK prog C c46 (retK prog f46.results) noneX (retK prog f46.results)
noncomputable def c46_1 : Code := cr c46
noncomputable def c46_2 : Code := cl c46
noncomputable def c46_3 : Code := cr c46_1
noncomputable def c46_4 : Code := cl c46_1
noncomputable def c46_5 : Code := cr c46_3
noncomputable def c46_6 : Code := cl c46_3
noncomputable def c46_7 : Code := cr c46_6
noncomputable def c46_8 : Code := cl c46_6
noncomputable def J46_1 (C : Caller) : Kn := codeK prog C c46_5 (retK prog f46.results) noneX (retK prog f46.results)
noncomputable def c46_9 : Code := cl c46_7
noncomputable def c46_10 : Code := cr c46_7
noncomputable def c46_11 : Code := cr c46_5
noncomputable def c46_12 : Code := cl c46_5
noncomputable def c46_13 : Code := cr c46_12
noncomputable def c46_14 : Code := cl c46_12
noncomputable def J46_2 (C : Caller) : Kn := codeK prog C c46_11 (retK prog f46.results) noneX (retK prog f46.results)
noncomputable def c46_15 : Code := cl c46_13
noncomputable def W46_3 (C : Caller) : Kn := codeK prog C c46_15 (J46_2 C) (blockX 0 (J46_2 C) noneX) (retK prog f46.results)
noncomputable def c46_16 : Code := cr c46_11
noncomputable def c46_17 : Code := cl c46_11
noncomputable def c46_18 : Code := cl c46_15
noncomputable def c46_19 : Code := cr c46_18
noncomputable def c46_20 : Code := cl c46_18
noncomputable def c46_21 : Code := cr c46_20
noncomputable def c46_22 : Code := cl c46_20
noncomputable def J46_4 (C : Caller) : Kn := codeK prog C c46_19 (W46_3 C) (blockX 0 (J46_2 C) noneX) (retK prog f46.results)
noncomputable def c46_23 : Code := cl c46_21
noncomputable def c46_24 : Code := cr c46_21
noncomputable def c46_25 : Code := cr c46_19
noncomputable def c46_26 : Code := cl c46_19
noncomputable def J46_5 (C : Caller) : Kn := codeK prog C c46_25 (W46_3 C) (blockX 0 (J46_2 C) noneX) (retK prog f46.results)
noncomputable def c46_27 : Code := cl c46_26
noncomputable def c46_28 : Code := cr c46_27
noncomputable def c46_29 : Code := cl c46_27
noncomputable def c46_30 : Code := cr c46_28
noncomputable def c46_31 : Code := cl c46_28
noncomputable def c46_32 : Code := cr c46_30
noncomputable def c46_33 : Code := cl c46_30
noncomputable def c46_34 : Code := cr c46_32
noncomputable def c46_35 : Code := cl c46_32
theorem J46_0_eq (C : Caller) (e : FEnv) (M : Mem) : J46_0 C e M = (stepK C M (some true) (.val .nilSlice M) (fun t2 M1 => (stepK C M1 (some true) (evBuildR prog M1 61 [(0, (.int .u64 1)), (1, (.int .u64 5))]) (fun t6 M2 => (stepK C M2 (some true) (evBuildSliceR prog M2 42 1 [(0, t6)]) (fun t7 M3 => (stepK C M3 (some true) (.val t7 M3) (fun t3 M4 => (stepK C M4 (some true) (.val (e 0) M4) (fun t8 M5 => (stepK C M5 (some true) (Go.VE.builtin prog M5 .len #[42] [t8]) (fun t9 M6 => (stepK C M6 (some true) (evBin prog M6 .gtr 3 t9 (.int .i64 0)) (fun t10 M7 => (condK t10 (stepK C M7 (some true) (.val t3 M7) (fun t11 M8 => (stepK C M8 (some true) (.val (e 0) M8) (fun t12 M9 => (stepK C M9 (some true) (evIndexAddr prog M9 42 t12 (.int .i64 0)) (fun t13 M10 => (stepK C M10 (some true) (evFieldAddr prog M10 61 t13 0) (fun t14 M11 => (stepK C M11 (some true) (evLoad prog M11 24 t14) (fun t15 M12 => (stepK C M12 (some true) (evBin prog M12 .rem 24 t15 (.int .u64 100)) (fun t16 M13 => (stepK C M13 (some true) (evBin prog M13 .add 24 (.int .u64 1) t16) (fun t17 M14 => (stepK C M14 (some true) (.val (e 0) M14) (fun t18 M15 => (stepK C M15 (some true) (evIndexAddr prog M15 42 t18 (.int .i64 0)) (fun t19 M16 => (stepK C M16 (some true) (evFieldAddr prog M16 61 t19 1) (fun t20 M17 => (stepK C M17 (some true) (evLoad prog M17 24 t20) (fun t21 M18 => (stepK C M18 (some true) (evBin prog M18 .rem 24 t21 (.int .u64 100)) (fun t22 M19 => (stepK C M19 (some true) (.val (e 0) M19) (fun t23 M20 => (stepK C M20 (some true) (evIndexAddr prog M20 42 t23 (.int .i64 0)) (fun t24 M21 => (stepK C M21 (some true) (evFieldAddr prog M21 61 t24 2) (fun t25 M22 => (stepK C M22 (some true) (evLoad prog M22 24 t25) (fun t26 M23 => (stepK C M23 (some true) (evBin prog M23 .rem 24 t26 (.int .u64 100)) (fun t27 M24 => (stepK C M24 (some true) (evBuildR prog M24 61 [(0, t17), (1, t22), (2, t27)]) (fun t28 M25 => (stepK C M25 (some true) (evIndexAddr prog M25 42 t11 (.int .i64 0)) (fun t29 M26 => (stepK C M26 (some true) (evStore prog M26 61 t29 t28) (fun _ M27 => (onStillK true (J46_1 C (fput (fput (fput (fput (fput (fput (fput (fput (fput (fput (fput (fput (fput (fput (fput (fput (fput (fput (fput (fput (fput (fput (fput (fput (fput (fput e (some 2) t2) (some 6) t6) (some 7) t7) (some 3) t3) (some 8) t8) (some 9) t9) (some 10) t10) (some 11) t11) (some 12) t12) (some 13) t13) (some 14) t14) (some 15) t15) (some 16) t16) (some 17) t17) (some 18) t18) (some 19) t19) (some 20) t20) (some 21) t21) (some 22) t22) (some 23) t23) (some 24) t24) (some 25) t25) (some 26) t26) (some 27) t27) (some 28) t28) (some 29) t29) M27)))))))))))))))))))))))))))))))))))))))))) (J46_1 C (fput (fput (fput (fput (fput (fput (fput e (some 2) t2) (some 6) t6) (some 7) t7) (some 3) t3) (some 8) t8) (some 9) t9) (some 10) t10) M7)))))))))))))))) := by kernel_rfl
theorem J46_1_eq (C : Caller) (e : FEnv) (M : Mem) : J46_1 C e M = (stepK C M (some true) (.val (.int .i64 1) M) (fun t4 M28 => (W46_3 C (fput e (some 4) t4) M28))) := by kernel_rfl
theorem J46_2_eq (C : Caller) (e : FEnv) (M : Mem) : J46_2 C e M = (stepK C M (some true) (.val (e 3) M) (fun t80 M29 => (stepK C M29 (some true) (.val t80 M29) (fun t2 M30 => (some (t2, M30)))))) := by kernel_rfl
theorem W46_3_eq (C : Caller) (e : FEnv) (M : Mem) : W46_3 C e M = (stepK C M (some true) (.val (e 4) M) (fun t30 M31 => (stepK C M31 (some true) (.val (e 0) M31) (fun t31 M32 => (stepK C M32 (some true) (Go.VE.builtin prog M32 .len #[42] [t31]) (fun t32 M33 => (stepK C M33 (some true) (evBin prog M33 .lss 3 t30 t32) (fun t33 M34 => (stepK C M34 (some true) (.val t33 M34) (fun t34 M35 => (stepK C M35 (wantB true t34) (.val (e 4) M35) (fun t35 M36 => (stepK C M36 (wantB true t34) (evBin prog M36 .lss 3 t35 (.int .i64 8)) (fun t36 M37 => (stepK C M37 (some true) (evPick M37 t34 t36 (.bool false)) (fun t37 M38 => (condK t37 (J46_4 C (fput (fput (fput (fput (fput (fput (fput (fput e (some 30) t30) (some 31) t31) (some 32) t32) (some 33) t33) (some 34) t34) (some 35) t35) (some 36) t36) (some 37) t37) M38) (J46_2 C (fput (fput (fput (fput (fput (fput (fput (fput e (some 30) t30) (some 31) t31) (some 32) t32) (some 33) t33) (some 34) t34) (some 35) t35) (some 36) t36) (some 37) t37) M38)))))))))))))))))) :=
  Eq.trans (b := codeK prog C (.loop c46_18) (J46_2 C) (blockX 0 (J46_2 C) noneX) (retK prog f46.results) e M) (by kernel_rfl) ((congrFun (congrFun (loopK_fix C c46_18 (J46_2 C) (blockX 0 (J46_2 C) noneX) (retK prog f46.results)) e) M).trans (by kernel_rfl))
theorem J46_4_eq (C : Caller) (e : FEnv) (M : Mem) : J46_4 C e M = (stepK C M (some true) (.val (e 3) M) (fun t40 M39 => (stepK C M39 (some true) (.val (e 4) M39) (fun t41 M40 => (stepK C M40 (some true) (evBin prog M40 .sub 3 t41 (.int .i64 1)) (fun t42 M41 => (stepK C M41 (some true) (evIndexAddr prog M41 42 t40 t42) (fun t43 M42 => (stepK C M42 (some true) (evLoad prog M42 61 t43) (fun t44 M43 => (stepK C M43 (some true) (evNew M43 (zero prog 61)) (fun t5 M44 => (stepK C M44 (some true) (evStore prog M44 61 t5 t44) (fun _ M45 => (stepK C M45 (some true) (evFieldAddr prog M45 61 t5 0) (fun t45 M46 => (stepK C M46 (some true) (evLoad prog M46 24 t45) (fun t46 M47 => (stepK C M47 (some true) (evBin prog M47 .add 24 t46 (.int .u64 1)) (fun t47 M48 => (stepK C M48 (some true) (.val (e 0) M48) (fun t48 M49 => (stepK C M49 (some true) (.val (e 4) M49) (fun t49 M50 => (stepK C M50 (some true) (evIndexAddr prog M50 42 t48 t49) (fun t50 M51 => (stepK C M51 (some true) (evFieldAddr prog M51 61 t50 0) (fun t51 M52 => (stepK C M52 (some true) (evLoad prog M52 24 t51) (fun t52 M53 => (stepK C M53 (some true) (evBin prog M53 .rem 24 t52 (.int .u64 100)) (fun t53 M54 => (stepK C M54 (some true) (evBin prog M54 .add 24 t47 t53) (fun t54 M55 => (stepK C M55 (some true) (evFieldAddr prog M55 61 t5 0) (fun t55 M56 => (stepK C M56 (some true) (evStore prog M56 24 t55 t54) (fun _ M57 => (onStillK true (stepK C M57 (some true) (evFieldAddr prog M57 61 t5 1) (fun t56 M58 => (stepK C M58 (some true) (evLoad prog M58 24 t56) (fun t57 M59 => (stepK C M59 (some true) (.val (e 0) M59) (fun t58 M60 => (stepK C M60 (some true) (.val (e 4) M60) (fun t59 M61 => (stepK C M61 (some true) (evIndexAddr prog M61 42 t58 t59) (fun t60 M62 => (stepK C M62 (some true) (evFieldAddr prog M62 61 t60 1) (fun t61 M63 => (stepK C M63 (some true) (evLoad prog M63 24 t61) (fun t62 M64 => (stepK C M64 (some true) (evBin prog M64 .rem 24 t62 (.int .u64 4)) (fun t63 M65 => (stepK C M65 (some true) (evBin prog M65 .add 24 t57 t63) (fun t64 M66 => (stepK C M66 (some true) (evFieldAddr prog M66 61 t5 1) (fun t65 M67 => (stepK C M67 (some true) (evStore prog M67 24 t65 t64) (fun _ M68 => (onStillK true (stepK C M68 (some true) (evFieldAddr prog M68 61 t5 2) (fun t66 M69 => (stepK C M69 (some true) (evLoad prog M69 24 t66) (fun t67 M70 => (stepK C M70 (some true) (.val (e 0) M70) (fun t68 M71 => (stepK C M71 (some true) (.val (e 4) M71) (fun t69 M72 => (stepK C M72 (some true) (evIndexAddr prog M72 42 t68 t69) (fun t70 M73 => (stepK C M73 (some true) (evFieldAddr prog M73 61 t70 2) (fun t71 M74 => (stepK C M74 (some true) (evLoad prog M74 24 t71) (fun t72 M75 => (stepK C M75 (some true) (evBin prog M75 .rem 24 t72 (.int .u64 30)) (fun t73 M76 => (stepK C M76 (some true) (evBin prog M76 .add 24 t67 t73) (fun t74 M77 => (stepK C M77 (some true) (evFieldAddr prog M77 61 t5 2) (fun t75 M78 => (stepK C M78 (some true) (evStore prog M78 24 t75 t74) (fun _ M79 => (onStillK true (stepK C M79 (some true) (.val (e 3) M79) (fun t76 M80 => (stepK C M80 (some true) (evLoad prog M80 61 t5) (fun t77 M81 => (stepK C M81 (some true) (evBuildSliceR prog M81 42 1 [(0, t77)]) (fun t78 M82 => (stepK C M82 (some true) (Go.VE.builtin prog M82 .append #[42, 42] [t76, t78]) (fun t79 M83 => (stepK C M83 (some true) (.val t79 M83) (fun t3 M84 => (J46_5 C (fput (fput (fput (fput (fput (fput (fput (fput (fput (fput (fput (fput (fput (fput (fput (fput (fput (fput (fput (fput (fput (fput (fput (fput (fput (fput (fput (fput (fput (fput (fput (fput (fput (fput (fput (fput (fput (fput (fput (fput (fput (fput e (some 40) t40) (some 41) t41) (some 42) t42) (some 43) t43) (some 44) t44) (some 5) t5) (some 45) t45) (some 46) t46) (some 47) t47) (some 48) t48) (some 49) t49) (some 50) t50) (some 51) t51) (some 52) t52) (some 53) t53) (some 54) t54) (some 55) t55) (some 56) t56) (some 57) t57) (some 58) t58) (some 59) t59) (some 60) t60) (some 61) t61) (some 62) t62) (some 63) t63) (some 64) t64) (some 65) t65) (some 66) t66) (some 67) t67) (some 68) t68) (some 69) t69) (some 70) t70) (some 71) t71) (some 72) t72) (some 73) t73) (some 74) t74) (some 75) t75) (some 76) t76) (some 77) t77) (some 78) t78) (some 79) t79) (some 3) t3) M84)))))))))))))))))))))))))))))))))))))))))))))))))))))))))))))))))))))))))))))))))))))))))))))))) := by kernel_rfl
theorem J46_5_eq (C : Caller) (e : FEnv) (M : Mem) : J46_5 C e M = (stepK C M (some true) (.val (e 4) M) (fun t38 M85 => (stepK C M85 (some true) (evBin prog M85 .add 3 t38 (.int .i64 1)) (fun t39 M86 => (stepK C M86 (some true) (.val t39 M86) (fun t4 M87 => (W46_3 C (fput (fput (fput e (some 38) t38) (some 39) t39) (some 4) t4) M87))))))) := by kernel_rfl
theorem run46 {L : Lib} (hL : L 46 = none) (args : List AVal) (M : Mem) : callW prog L 46 args M = J46_0 (callW prog L) (argsF args) M :=
  callW_run hL (fn := f46) (by kernel_rfl) (b := c46) (by kernel_rfl) args M
/-! platformfw/platformfwlaw39.Trips -/
noncomputable def c47 : Code := bodyOf f47
noncomputable def J47_0 (C : Caller) : Kn := codeK prog C c47 (retK prog f47.results) noneX (retK prog f47.results)
noncomputable def c47_1 : Code := cr c47
noncomputable def c47_2 : Code := cl c47
noncomputable def c47_3 : Code := cr c47_1
noncomputable def c47_4 : Code := cl c47_1
noncomputable def c47_5 : Code := cr c47_3
noncomputable def c47_6 : Code := cl c47_3
noncomputable def c47_7 : Code := cr c47_6
noncomputable def c47_8 : Code := cl c47_6
noncomputable def J47_1 (C : Caller) : Kn := codeK prog C c47_5 (retK prog f47.results) noneX (retK prog f47.results)
noncomputable def c47_9 : Code := cl c47_7
noncomputable def W47_2 (C : Caller) : Kn := codeK prog C c47_9 (J47_1 C) (blockX 0 (J47_1 C) noneX) (retK prog f47.results)
noncomputable def c47_10 : Code := cr c47_5
noncomputable def c47_11 : Code := cl c47_5
noncomputable def c47_12 : Code := cl c47_9
noncomputable def c47_13 : Code := cr c47_12
noncomputable def c47_14 : Code := cl c47_12
noncomputable def c47_15 : Code := cr c47_14
noncomputable def c47_16 : Code := cl c47_14
noncomputable def J47_3 (C : Caller) : Kn := codeK prog C c47_13 (W47_2 C) (blockX 0 (J47_1 C) noneX) (retK prog f47.results)
noncomputable def c47_17 : Code := cl c47_15
noncomputable def c47_18 : Code := cr c47_15
noncomputable def c47_19 : Code := cr c47_13
noncomputable def c47_20 : Code := cl c47_13
noncomputable def J47_4 (C : Caller) : Kn := codeK prog C c47_19 (W47_2 C) (blockX 0 (J47_1 C) noneX) (retK prog f47.results)
noncomputable def c47_21 : Code := cl c47_20
theorem J47_0_eq (C : Caller) (e : FEnv) (M : Mem) : J47_0 C e M = (stepK C M (some true) (.val .nilSlice M) (fun t2 M1 => (stepK C M1 (some true) (.val .nilSlice M1) (fun t3 M2 => (stepK C M2 (some true) (.val (.int .i64 0) M2) (fun t4 M3 => (W47_2 C (fput (fput (fput e (some 2) t2) (some 3) t3) (some 4) t4) M3))))))) := by kernel_rfl
theorem J47_1_eq (C : Caller) (e : FEnv) (M : Mem) : J47_1 C e M = (stepK C M (some true) (.val (e 3) M) (fun t43 M4 => (stepK C M4 (some true) (.val t43 M4) (fun t2 M5 => (some (t2, M5)))))) := by kernel_rfl
theorem W47_2_eq (C : Caller) (e : FEnv) (M : Mem) : W47_2 C e M = (stepK C M (some true) (.val (e 4) M) (fun t5 M6 => (stepK C M6 (some true) (.val (e 0) M6) (fun t6 M7 => (stepK C M7 (some true) (Go.VE.builtin prog M7 .len #[43] [t6]) (fun t7 M8 => (stepK C M8 (some true) (evBin prog M8 .lss 3 t5 t7) (fun t8 M9 => (stepK C M9 (some true) (.val t8 M9) (fun t9 M10 => (stepK C M10 (wantB true t9) (.val (e 4) M10) (fun t10 M11 => (stepK C M11 (wantB true t9) (evBin prog M11 .lss 3 t10 (.int .i64 6)) (fun t11 M12 => (stepK C M12 (some true) (evPick M12 t9 t11 (.bool false)) (fun t12 M13 => (condK t12 (J47_3 C (fput (fput (fput (fput (fput (fput (fput (fput e (some 5) t5) (some 6) t6) (some 7) t7) (some 8) t8) (some 9) t9) (some 10) t10) (some 11) t11) (some 12) t12) M13) (J47_1 C (fput (fput (fput (fput (fput (fput (fput (fput e (some 5) t5) (some 6) t6) (some 7) t7) (some 8) t8) (some 9) t9) (some 10) t10) (some 11) t11) (some 12) t12) M13)))))))))))))))))) :=
  Eq.trans (b := codeK prog C (.loop c47_12) (J47_1 C) (blockX 0 (J47_1 C) noneX) (retK prog f47.results) e M) (by kernel_rfl) ((congrFun (congrFun (loopK_fix C c47_12 (J47_1 C) (blockX 0 (J47_1 C) noneX) (retK prog f47.results)) e) M).trans (by kernel_rfl))
theorem J47_3_eq (C : Caller) (e : FEnv) (M : Mem) : J47_3 C e M = (stepK C M (some true) (.val (e 3) M) (fun t15 M14 => (stepK C M14 (some true) (.val (e 0) M14) (fun t16 M15 => (stepK C M15 (some true) (.val (e 4) M15) (fun t17 M16 => (stepK C M16 (some true) (evIndexAddr prog M16 43 t16 t17) (fun t18 M17 => (stepK C M17 (some true) (evFieldAddr prog M17 205 t18 0) (fun t19 M18 => (stepK C M18 (some true) (evLoad prog M18 3 t19) (fun t20 M19 => (stepK C M19 (some true) (.val (e 0) M19) (fun t23 M20 => (stepK C M20 (some true) (.val (e 4) M20) (fun t24 M21 => (stepK C M21 (some true) (evIndexAddr prog M21 43 t23 t24) (fun t25 M22 => (stepK C M22 (some true) (evFieldAddr prog M22 205 t25 1) (fun t26 M23 => (stepK C M23 (some true) (evLoad prog M23 2 t26) (fun t27 M24 => (stepK C M24 (some true) (evConvert prog M24 2 24 t27) (fun t28 M25 => (stepK C M25 (some true) (evBin prog M25 .rem 24 t28 (.int .u64 101)) (fun t29 M26 => (stepK C M26 (some true) (evConvert prog M26 24 2 t29) (fun t30 M27 => (stepK C M27 (some true) (evBin prog M27 .sub 2 t30 (.int .i64 50)) (fun t31 M28 => (stepK C M28 (some true) (.val (e 0) M28) (fun t32 M29 => (stepK C M29 (some true) (.val (e 4) M29) (fun t33 M30 => (stepK C M30 (some true) (evIndexAddr prog M30 43 t32 t33) (fun t34 M31 => (stepK C M31 (some true) (evFieldAddr prog M31 205 t34 2) (fun t35 M32 => (stepK C M32 (some true) (evLoad prog M32 2 t35) (fun t36 M33 => (stepK C M33 (some true) (evConvert prog M33 2 24 t36) (fun t37 M34 => (stepK C M34 (some true) (evBin prog M34 .rem 24 t37 (.int .u64 20)) (fun t38 M35 => (stepK C M35 (some true) (evConvert prog M35 24 2 t38) (fun t39 M36 => (stepK C M36 (some true) (.call 14 [t20, (.int .i64 3)]) (fun t21 M37 => (onStillK ((sameVal t36 (evLoad prog M37 2 t35)) && ((sameVal t27 (evLoad prog M37 2 t26)) && true)) (stepK C M37 (some true) (evBin prog M37 .add 3 (.int .i64 1) t21) (fun t22 M38 => (stepK C M38 (some true) (evBuildR prog M38 205 [(0, t22), (1, t31), (2, t39)]) (fun t40 M39 => (stepK C M39 (some true) (evBuildSliceR prog M39 43 1 [(0, t40)]) (fun t41 M40 => (stepK C M40 (some true) (Go.VE.builtin prog M40 .append #[43, 43] [t15, t41]) (fun t42 M41 => (onStillK true (stepK C M41 (some true) (.val t42 M41) (fun t3 M42 => (J47_4 C (fput (fput (fput (fput (fput (fput (fput (fput (fput (fput (fput (fput (fput (fput (fput (fput (fput (fput (fput (fput (fput (fput (fput (fput (fput (fput (fput (fput (fput e (some 15) t15) (some 16) t16) (some 17) t17) (some 18) t18) (some 19) t19) (some 20) t20) (some 23) t23) (some 24) t24) (some 25) t25) (some 26) t26) (some 27) t27) (some 28) t28) (some 29) t29) (some 30) t30) (some 31) t31) (some 32) t32) (some 33) t33) (some 34) t34) (some 35) t35) (some 36) t36) (some 37) t37) (some 38) t38) (some 39) t39) (some 21) t21) (some 22) t22) (some 40) t40) (some 41) t41) (some 42) t42) (some 3) t3) M42))))))))))))))))))))))))))))))))))))))))))))))))))))))))))))) := by kernel_rfl
theorem J47_4_eq (C : Caller) (e : FEnv) (M : Mem) : J47_4 C e M = (stepK C M (some true) (.val (e 4) M) (fun t13 M43 => (stepK C M43 (some true) (evBin prog M43 .add 3 t13 (.int .i64 1)) (fun t14 M44 => (stepK C M44 (some true) (.val t14 M44) (fun t4 M45 => (W47_2 C (fput (fput (fput e (some 13) t13) (some 14) t14) (some 4) t4) M45))))))) := by kernel_rfl
theorem run47 {L : Lib} (hL : L 47 = none) (args : List AVal) (M : Mem) : callW prog L 47 args M = J47_0 (callW prog L) (argsF args) M :=
  callW_run hL (fn := f47) (by kernel_rfl) (b := c47) (by kernel_rfl) args M
/-! (*platformfw/control.domain).restart -/
noncomputable def c52 : Code := bodyOf f52
noncomputable def J52_0 (C : Caller) : Kn := codeK prog C c52 (retK prog f52.results) noneX (retK prog f52.results)
noncomputable def c52_1 : Code := cr c52
noncomputable def c52_2 : Code := cl c52
noncomputable def c52_3 : Code := cr c52_1
noncomputable def c52_4 : Code := cl c52_1
noncomputable def c52_5 : Code := cr c52_3
noncomputable def c52_6 : Code := cl c52_3
noncomputable def c52_7 : Code := cr c52_6
noncomputable def c52_8 : Code := cl c52_6
noncomputable def J52_1 (C : Caller) : Kn := codeK prog C c52_5 (retK prog f52.results) noneX (retK prog f52.results)
noncomputable def c52_9 : Code := cl c52_7
noncomputable def c52_10 : Code := cr c52_9
noncomputable def c52_11 : Code := cl c52_9
noncomputable def c52_12 : Code := cr c52_7
noncomputable def c52_13 : Code := cr c52_5
noncomputable def c52_14 : Code := cl c52_5
noncomputable def c52_15 : Code := cr c52_13
noncomputable def c52_16 : Code := cl c52_13
noncomputable def c52_17 : Code := cr c52_15
noncomputable def c52_18 : Code := cl c52_15
theorem J52_0_eq (C : Caller) (e : FEnv) (M : Mem) : J52_0 C e M = (stepK C M (some true) (.val (.int .i64 0) M) (fun t2 M1 => (stepK C M1 (some true) (.val (e 0) M1) (fun t7 M2 => (stepK C M2 (some true) (evNilCheck M2 t7) (fun t8 M3 => (stepK C M3 (some true) (evFieldAddr prog M3 132 t8 0) (fun t9 M4 => (stepK C M4 (some true) (evLoad prog M4 42 t9) (fun t10 M5 => (stepK C M5 (some true) (.val (e 0) M5) (fun t11 M6 => (stepK C M6 (some true) (evNilCheck M6 t11) (fun t12 M7 => (stepK C M7 (some true) (evFieldAddr prog M7 132 t12 1) (fun t13 M8 => (stepK C M8 (some true) (evLoad prog M8 39 t13) (fun t14 M9 => (stepK C M9 (some true) (.call 93 [t10, t14]) (fun t15 M10 => (onStillK true (stepK C M10 (some true) (.val t15 M10) (fun t6 M11 => (stepK C M11 (some true) (evExtract M11 t6 0) (fun t16 M12 => (stepK C M12 (some true) (evExtract M12 t6 1) (fun t17 M13 => (stepK C M13 (some true) (.val t16 M13) (fun t3 M14 => (stepK C M14 (some true) (.val t17 M14) (fun t4 M15 => (stepK C M15 (some true) (.val t4 M15) (fun t18 M16 => (stepK C M16 (some true) (evBin prog M16 .neq 28 t18 (.int .i64 0)) (fun t19 M17 => (condK t19 (stepK C M17 (some true) (.val t4 M17) (fun t20 M18 => (stepK C M18 (some true) (.val t20 M18) (fun t2 M19 => (some (t2, M19)))))) (J52_1 C (fput (fput (fput (fput (fput (fput (fput (fput (fput (fput (fput (fput (fput (fput (fput (fput (fput e (some 2) t2) (some 7) t7) (some 8) t8) (some 9) t9) (some 10) t10) (some 11) t11) (some 12) t12) (some 13) t13) (some 14) t14) (some 15) t15) (some 6) t6) (some 16) t16) (some 17) t17) (some 3) t3) (some 4) t4) (some 18) t18) (some 19) t19) M17))))))))))))))))))))))))))))))))))))) := by kernel_rfl
theorem J52_1_eq (C : Caller) (e : FEnv) (M : Mem) : J52_1 C e M = (stepK C M (some true) (.val (e 0) M) (fun t22 M20 => (stepK C M20 (some true) (evNilCheck M20 t22) (fun t23 M21 => (stepK C M21 (some true) (evFieldAddr prog M21 132 t23 2) (fun t24 M22 => (stepK C M22 (some true) (evLoad prog M22 43 t24) (fun t25 M23 => (stepK C M23 (some true) (.call 94 [t25, (.int .i64 16)]) (fun t26 M24 => (stepK C M24 (some true) (.val t26 M24) (fun t21 M25 => (stepK C M25 (some true) (evExtract M25 t21 0) (fun t27 M26 => (stepK C M26 (some true) (evExtract M26 t21 1) (fun t28 M27 => (stepK C M27 (some true) (.val t27 M27) (fun t5 M28 => (stepK C M28 (some true) (.val t28 M28) (fun t4 M29 => (stepK C M29 (some true) (.val (e 0) M29) (fun t29 M30 => (stepK C M30 (some true) (.val (e 0) M30) (fun t30 M31 => (stepK C M31 (some true) (.val (e 0) M31) (fun t31 M32 => (stepK C M32 (some true) (.val (e 3) M32) (fun t32 M33 => (stepK C M33 (some true) (.val t5 M33) (fun t33 M34 => (stepK C M34 (some true) (.val (e 0) M34) (fun t34 M35 => (stepK C M35 (some true) (evNilCheck M35 t34) (fun t35 M36 => (stepK C M36 (some true) (evFieldAddr prog M36 132 t35 0) (fun t36 M37 => (stepK C M37 (some true) (evLoad prog M37 42 t36) (fun t37 M38 => (stepK C M38 (some true) (Go.VE.builtin prog M38 .len #[42] [t37]) (fun t38 M39 => (stepK C M39 (some true) (evBin prog M39 .sub 3 t38 (.int .i64 1)) (fun t39 M40 => (stepK C M40 (some true) (evNilCheck M40 t29) (fun t40 M41 => (stepK C M41 (some true) (evFieldAddr prog M41 132 t40 6) (fun t41 M42 => (stepK C M42 (some true) (evStore prog M42 129 t41 t32) (fun _ M43 => (stepK C M43 (some true) (evNilCheck M43 t30) (fun t42 M44 => (stepK C M44 (some true) (evFieldAddr prog M44 132 t42 7) (fun t43 M45 => (stepK C M45 (some true) (evStore prog M45 130 t43 t33) (fun _ M46 => (stepK C M46 (some true) (evNilCheck M46 t31) (fun t44 M47 => (stepK C M47 (some true) (evFieldAddr prog M47 132 t44 8) (fun t45 M48 => (stepK C M48 (some true) (evStore prog M48 3 t45 t39) (fun _ M49 => (stepK C M49 (some true) (.val t4 M49) (fun t46 M50 => (stepK C M50 (some true) (.val t46 M50) (fun t2 M51 => (some (t2, M51)))))))))))))))))))))))))))))))))))))))))))))))))))))))))))))))))) := by kernel_rfl
theorem run52 {L : Lib} (hL : L 52 = none) (args : List AVal) (M : Mem) : callW prog L 52 args M = J52_0 (callW prog L) (argsF args) M :=
  callW_run hL (fn := f52) (by kernel_rfl) (b := c52) (by kernel_rfl) args M
/-! slices.Clone[[]platformfw/api.OperatingPoint,platformfw/api.OperatingPoint] -/
noncomputable def c78 : Code := bodyOf f78
noncomputable def J78_0 (C : Caller) : Kn := codeK prog C c78 (retK prog f78.results) noneX (retK prog f78.results)
noncomputable def c78_1 : Code := cr c78
noncomputable def c78_2 : Code := cl c78
noncomputable def c78_3 : Code := cr c78_1
noncomputable def c78_4 : Code := cl c78_1
noncomputable def c78_5 : Code := cr c78_4
noncomputable def c78_6 : Code := cl c78_4
noncomputable def J78_1 (C : Caller) : Kn := codeK prog C c78_3 (retK prog f78.results) noneX (retK prog f78.results)
noncomputable def c78_7 : Code := cl c78_5
noncomputable def c78_8 : Code := cr c78_7
noncomputable def c78_9 : Code := cl c78_7
noncomputable def c78_10 : Code := cr c78_5
noncomputable def c78_11 : Code := cr c78_3
noncomputable def c78_12 : Code := cl c78_3
theorem J78_0_eq (C : Caller) (e : FEnv) (M : Mem) : J78_0 C e M = (stepK C M (some true) (.val .nilSlice M) (fun t2 M1 => (stepK C M1 (some true) (.val (e 0) M1) (fun t3 M2 => (stepK C M2 (some true) (evBin prog M2 .eql 42 t3 .nilSlice) (fun t4 M3 => (condK t4 (stepK C M3 (some true) (.val .nilSlice M3) (fun t2 M4 => (some (t2, M4)))) (J78_1 C (fput (fput (fput e (some 2) t2) (some 3) t3) (some 4) t4) M3)))))))) := by kernel_rfl
theorem J78_1_eq (C : Caller) (e : FEnv) (M : Mem) : J78_1 C e M = (stepK C M (some true) (evBuildSliceR prog M 42 0 []) (fun t5 M5 => (stepK C M5 (some true) (.val (e 0) M5) (fun t6 M6 => (stepK C M6 (some true) (Go.VE.builtin prog M6 .append #[42, 42] [t5, t6]) (fun t7 M7 => (stepK C M7 (some true) (.val t7 M7) (fun t2 M8 => (some (t2, M8)))))))))) := by kernel_rfl
theorem run78 {L : Lib} (hL : L 78 = none) (args : List AVal) (M : Mem) : callW prog L 78 args M = J78_0 (callW prog L) (argsF args) M :=
  callW_run hL (fn := f78) (by kernel_rfl) (b := c78) (by kernel_rfl) args M
/-! slices.Clone[[]platformfw/api.Trip,platformfw/api.Trip] -/
noncomputable def c79 : Code := bodyOf f79
noncomputable def J79_0 (C : Caller) : Kn := codeK prog C c79 (retK prog f79.results) noneX (retK prog f79.results)
noncomputable def c79_1 : Code := cr c79
noncomputable def c79_2 : Code := cl c79
noncomputable def c79_3 : Code := cr c79_1
noncomputable def c79_4 : Code := cl c79_1
noncomputable def c79_5 : Code := cr c79_4
noncomputable def c79_6 : Code := cl c79_4
noncomputable def J79_1 (C : Caller) : Kn := codeK prog C c79_3 (retK prog f79.results) noneX (retK prog f79.results)
noncomputable def c79_7 : Code := cl c79_5
noncomputable def c79_8 : Code := cr c79_7
noncomputable def c79_9 : Code := cl c79_7
noncomputable def c79_10 : Code := cr c79_5
noncomputable def c79_11 : Code := cr c79_3
noncomputable def c79_12 : Code := cl c79_3
theorem J79_0_eq (C : Caller) (e : FEnv) (M : Mem) : J79_0 C e M = (stepK C M (some true) (.val .nilSlice M) (fun t2 M1 => (stepK C M1 (some true) (.val (e 0) M1) (fun t3 M2 => (stepK C M2 (some true) (evBin prog M2 .eql 43 t3 .nilSlice) (fun t4 M3 => (condK t4 (stepK C M3 (some true) (.val .nilSlice M3) (fun t2 M4 => (some (t2, M4)))) (J79_1 C (fput (fput (fput e (some 2) t2) (some 3) t3) (some 4) t4) M3)))))))) := by kernel_rfl
theorem J79_1_eq (C : Caller) (e : FEnv) (M : Mem) : J79_1 C e M = (stepK C M (some true) (evBuildSliceR prog M 43 0 []) (fun t5 M5 => (stepK C M5 (some true) (.val (e 0) M5) (fun t6 M6 => (stepK C M6 (some true) (Go.VE.builtin prog M6 .append #[43, 43] [t5, t6]) (fun t7 M7 => (stepK C M7 (some true) (.val t7 M7) (fun t2 M8 => (some (t2, M8)))))))))) := by kernel_rfl
theorem run79 {L : Lib} (hL : L 79 = none) (args : List AVal) (M : Mem) : callW prog L 79 args M = J79_0 (callW prog L) (argsF args) M :=
  callW_run hL (fn := f79) (by kernel_rfl) (b := c79) (by kernel_rfl) args M
/-! slices.Clone[[]platformfw/api.HeatDomain,platformfw/api.HeatDomain] -/
noncomputable def c81 : Code := bodyOf f81
noncomputable def J81_0 (C : Caller) : Kn := codeK prog C c81 (retK prog f81.results) noneX (retK prog f81.results)
noncomputable def c81_1 : Code := cr c81
noncomputable def c81_2 : Code := cl c81
noncomputable def c81_3 : Code := cr c81_1
noncomputable def c81_4 : Code := cl c81_1
noncomputable def c81_5 : Code := cr c81_4
noncomputable def c81_6 : Code := cl c81_4
noncomputable def J81_1 (C : Caller) : Kn := codeK prog C c81_3 (retK prog f81.results) noneX (retK prog f81.results)
noncomputable def c81_7 : Code := cl c81_5
noncomputable def c81_8 : Code := cr c81_7
noncomputable def c81_9 : Code := cl c81_7
noncomputable def c81_10 : Code := cr c81_5
noncomputable def c81_11 : Code := cr c81_3
noncomputable def c81_12 : Code := cl c81_3
theorem J81_0_eq (C : Caller) (e : FEnv) (M : Mem) : J81_0 C e M = (stepK C M (some true) (.val .nilSlice M) (fun t2 M1 => (stepK C M1 (some true) (.val (e 0) M1) (fun t3 M2 => (stepK C M2 (some true) (evBin prog M2 .eql 104 t3 .nilSlice) (fun t4 M3 => (condK t4 (stepK C M3 (some true) (.val .nilSlice M3) (fun t2 M4 => (some (t2, M4)))) (J81_1 C (fput (fput (fput e (some 2) t2) (some 3) t3) (some 4) t4) M3)))))))) := by kernel_rfl
theorem J81_1_eq (C : Caller) (e : FEnv) (M : Mem) : J81_1 C e M = (stepK C M (some true) (evBuildSliceR prog M 104 0 []) (fun t5 M5 => (stepK C M5 (some true) (.val (e 0) M5) (fun t6 M6 => (stepK C M6 (some true) (Go.VE.builtin prog M6 .append #[104, 104] [t5, t6]) (fun t7 M7 => (stepK C M7 (some true) (.val t7 M7) (fun t2 M8 => (some (t2, M8)))))))))) := by kernel_rfl
theorem run81 {L : Lib} (hL : L 81 = none) (args : List AVal) (M : Mem) : callW prog L 81 args M = J81_0 (callW prog L) (argsF args) M :=
  callW_run hL (fn := f81) (by kernel_rfl) (b := c81) (by kernel_rfl) args M
/-! slices.Clone[[]platformfw/api.HeatLink,platformfw/api.HeatLink] -/
noncomputable def c82 : Code := bodyOf f82
noncomputable def J82_0 (C : Caller) : Kn := codeK prog C c82 (retK prog f82.results) noneX (retK prog f82.results)
noncomputable def c82_1 : Code := cr c82
noncomputable def c82_2 : Code := cl c82
noncomputable def c82_3 : Code := cr c82_1
noncomputable def c82_4 : Code := cl c82_1
noncomputable def c82_5 : Code := cr c82_4
noncomputable def c82_6 : Code := cl c82_4
noncomputable def J82_1 (C : Caller) : Kn := codeK prog C c82_3 (retK prog f82.results) noneX (retK prog f82.results)
noncomputable def c82_7 : Code := cl c82_5
noncomputable def c82_8 : Code := cr c82_7
noncomputable def c82_9 : Code := cl c82_7
noncomputable def c82_10 : Code := cr c82_5
noncomputable def c82_11 : Code := cr c82_3
noncomputable def c82_12 : Code := cl c82_3
theorem J82_0_eq (C : Caller) (e : FEnv) (M : Mem) : J82_0 C e M = (stepK C M (some true) (.val .nilSlice M) (fun t2 M1 => (stepK C M1 (some true) (.val (e 0) M1) (fun t3 M2 => (stepK C M2 (some true) (evBin prog M2 .eql 23 t3 .nilSlice) (fun t4 M3 => (condK t4 (stepK C M3 (some true) (.val .nilSlice M3) (fun t2 M4 => (some (t2, M4)))) (J82_1 C (fput (fput (fput e (some 2) t2) (some 3) t3) (some 4) t4) M3)))))))) := by kernel_rfl
theorem J82_1_eq (C : Caller) (e : FEnv) (M : Mem) : J82_1 C e M = (stepK C M (some true) (evBuildSliceR prog M 23 0 []) (fun t5 M5 => (stepK C M5 (some true) (.val (e 0) M5) (fun t6 M6 => (stepK C M6 (some true) (Go.VE.builtin prog M6 .append #[23, 23] [t5, t6]) (fun t7 M7 => (stepK C M7 (some true) (.val t7 M7) (fun t2 M8 => (some (t2, M8)))))))))) := by kernel_rfl
theorem run82 {L : Lib} (hL : L 82 = none) (args : List AVal) (M : Mem) : callW prog L 82 args M = J82_0 (callW prog L) (argsF args) M :=
  callW_run hL (fn := f82) (by kernel_rfl) (b := c82) (by kernel_rfl) args M
/-! platformfw/heat.valid -/
noncomputable def c80 : Code := bodyOf f80
noncomputable def J80_0 (C : Caller) : Kn := codeK prog C c80 (retK prog f80.results) noneX (retK prog f80.results)
noncomputable def c80_1 : Code := cr c80
noncomputable def c80_2 : Code := cl c80
noncomputable def c80_3 : Code := cr c80_1
noncomputable def c80_4 : Code := cl c80_1
noncomputable def c80_5 : Code := cr c80_4
noncomputable def c80_6 : Code := cl c80_4
noncomputable def J80_1 (C : Caller) : Kn := codeK prog C c80_3 (retK prog f80.results) noneX (retK prog f80.results)
noncomputable def c80_7 : Code := cl c80_5
noncomputable def c80_8 : Code := cr c80_7
noncomputable def c80_9 : Code := cl c80_7
noncomputable def c80_10 : Code := cr c80_5
noncomputable def c80_11 : Code := cr c80_3
noncomputable def c80_12 : Code := cl c80_3
noncomputable def c80_13 : Code := cr c80_12
noncomputable def c80_14 : Code := cl c80_12
noncomputable def J80_2 (C : Caller) : Kn := codeK prog C c80_11 (retK prog f80.results) noneX (retK prog f80.results)
noncomputable def c80_15 : Code := cl c80_13
noncomputable def W80_3 (C : Caller) : Kn := codeK prog C c80_15 (J80_2 C) (blockX 0 (J80_2 C) noneX) (retK prog f80.results)
noncomputable def c80_16 : Code := cr c80_11
noncomputable def c80_17 : Code := cl c80_11
noncomputable def c80_18 : Code := cl c80_15
noncomputable def c80_19 : Code := cr c80_18
noncomputable def c80_20 : Code := cl c80_18
noncomputable def c80_21 : Code := cr c80_19
noncomputable def c80_22 : Code := cl c80_19
noncomputable def J80_4 (C : Caller) : Kn := codeK prog C c80_21 (W80_3 C) (blockX 0 (J80_2 C) noneX) (retK prog f80.results)
noncomputable def c80_23 : Code := cl c80_22
noncomputable def c80_24 : Code := cr c80_22
noncomputable def c80_25 : Code := cr c80_21
noncomputable def c80_26 : Code := cl c80_21
noncomputable def J80_5 (C : Caller) : Kn := codeK prog C c80_25 (W80_3 C) (blockX 0 (J80_2 C) noneX) (retK prog f80.results)
noncomputable def c80_27 : Code := cl c80_26
noncomputable def c80_28 : Code := cr c80_27
noncomputable def c80_29 : Code := cl c80_27
noncomputable def c80_30 : Code := cr c80_28
noncomputable def c80_31 : Code := cl c80_28
noncomputable def c80_32 : Code := cr c80_31
noncomputable def c80_33 : Code := cl c80_31
noncomputable def J80_6 (C : Caller) : Kn := codeK prog C c80_30 (J80_5 C) (blockX 1 (J80_5 C) (blockX 0 (J80_2 C) noneX)) (retK prog f80.results)
noncomputable def c80_34 : Code := cl c80_32
noncomputable def c80_35 : Code := cr c80_34
noncomputable def c80_36 : Code := cl c80_34
noncomputable def c80_37 : Code := cr c80_32
noncomputable def c80_38 : Code := cr c80_30
noncomputable def c80_39 : Code := cl c80_30
noncomputable def c80_40 : Code := cr c80_38
noncomputable def c80_41 : Code := cl c80_38
noncomputable def c80_42 : Code := cr c80_41
noncomputable def c80_43 : Code := cl c80_41
noncomputable def J80_7 (C : Caller) : Kn := codeK prog C c80_40 (J80_5 C) (blockX 1 (J80_5 C) (blockX 0 (J80_2 C) noneX)) (retK prog f80.results)
noncomputable def c80_44 : Code := cl c80_42
noncomputable def W80_8 (C : Caller) : Kn := codeK prog C c80_44 (J80_7 C) (blockX 2 (J80_7 C) (blockX 1 (J80_5 C) (blockX 0 (J80_2 C) noneX))) (retK prog f80.results)
noncomputable def c80_45 : Code := cr c80_40
noncomputable def c80_46 : Code := cl c80_40
noncomputable def c80_47 : Code := cl c80_45
noncomputable def c80_48 : Code := cr c80_47
noncomputable def c80_49 : Code := cl c80_47
noncomputable def c80_50 : Code := cr c80_45
noncomputable def c80_51 : Code := cl c80_44
noncomputable def c80_52 : Code := cr c80_51
noncomputable def c80_53 : Code := cl c80_51
noncomputable def c80_54 : Code := cr c80_52
noncomputable def c80_55 : Code := cl c80_52
noncomputable def J80_9 (C : Caller) : Kn := codeK prog C c80_54 (W80_8 C) (blockX 2 (J80_7 C) (blockX 1 (J80_5 C) (blockX 0 (J80_2 C) noneX))) (retK prog f80.results)
noncomputable def c80_56 : Code := cl c80_55
noncomputable def c80_57 : Code := cr c80_55
noncomputable def c80_58 : Code := cr c80_54
noncomputable def c80_59 : Code := cl c80_54
noncomputable def J80_10 (C : Caller) : Kn := codeK prog C c80_58 (W80_8 C) (blockX 2 (J80_7 C) (blockX 1 (J80_5 C) (blockX 0 (J80_2 C) noneX))) (retK prog f80.results)
noncomputable def c80_60 : Code := cl c80_59
noncomputable def c80_61 : Code := cr c80_60
noncomputable def c80_62 : Code := cl c80_60
noncomputable def c80_63 : Code := cr c80_61
noncomputable def c80_64 : Code := cl c80_61
noncomputable def c80_65 : Code := cl c80_63
noncomputable def c80_66 : Code := cr c80_63
theorem J80_0_eq (C : Caller) (e : FEnv) (M : Mem) : J80_0 C e M = (stepK C M (some true) (.val (.bool false) M) (fun t6 M1 => (stepK C M1 (some true) (.val (e 0) M1) (fun t12 M2 => (stepK C M2 (some true) (Go.VE.builtin prog M2 .len #[104] [t12]) (fun t13 M3 => (stepK C M3 (some true) (evBin prog M3 .lss 3 t13 (.int .i64 1)) (fun t14 M4 => (stepK C M4 (some true) (.val t14 M4) (fun t15 M5 => (stepK C M5 (wantB false t15) (.val (e 0) M5) (fun t16 M6 => (stepK C M6 (wantB false t15) (Go.VE.builtin prog M6 .len #[104] [t16]) (fun t17 M7 => (stepK C M7 (wantB false t15) (evBin prog M7 .gtr 3 t17 (.int .i64 16)) (fun t18 M8 => (stepK C M8 (some true) (evPick M8 t15 (.bool true) t18) (fun t19 M9 => (stepK C M9 (some true) (.val t19 M9) (fun t20 M10 => (stepK C M10 (wantB false t20) (.val (e 2) M10) (fun t21 M11 => (stepK C M11 (wantB false t20) (.call 122 [t21, (.int .i64 (-16777216))]) (fun t22 M12 => (stepK C M12 (wantB false t20) (OpR.ofOpt M12 (unOp .not t22)) (fun t23 M13 => (stepK C M13 (some true) (evPick M13 t20 (.bool true) t23) (fun t24 M14 => (stepK C M14 (some true) (.val t24 M14) (fun t25 M15 => (stepK C M15 (wantB false t25) (.val (e 0) M15) (fun t26 M16 => (stepK C M16 (wantB false t25) (Go.VE.builtin prog M16 .len #[104] [t26]) (fun t27 M17 => (stepK C M17 (wantB false t25) (.val (e 1) M17) (fun t28 M18 => (stepK C M18 (wantB false t25) (.call 123 [t27, t28]) (fun t29 M19 => (stepK C M19 (wantB false t25) (OpR.ofOpt M19 (unOp .not t29)) (fun t30 M20 => (stepK C M20 (some true) (evPick M20 t25 (.bool true) t30) (fun t31 M21 => (condK t31 (stepK C M21 (some true) (.val (.bool false) M21) (fun t6 M22 => (some (t6, M22)))) (J80_1 C (fput (fput (fput (fput (fput (fput (fput (fput (fput (fput (fput (fput (fput (fput (fput (fput (fput (fput (fput (fput (fput e (some 6) t6) (some 12) t12) (some 13) t13) (some 14) t14) (some 15) t15) (some 16) t16) (some 17) t17) (some 18) t18) (some 19) t19) (some 20) t20) (some 21) t21) (some 22) t22) (some 23) t23) (some 24) t24) (some 25) t25) (some 26) t26) (some 27) t27) (some 28) t28) (some 29) t29) (some 30) t30) (some 31) t31) M21)))))))))))))))))))))))))))))))))))))))))))) := by kernel_rfl
theorem J80_1_eq (C : Caller) (e : FEnv) (M : Mem) : J80_1 C e M = (stepK C M (some true) (.val (e 0) M) (fun t32 M23 => (stepK C M23 (some true) (Go.VE.builtin prog M23 .len #[104] [t32]) (fun t33 M24 => (stepK C M24 (some true) (.val (.int .i64 0) M24) (fun t34 M25 => (W80_3 C (fput (fput (fput e (some 32) t32) (some 33) t33) (some 34) t34) M25))))))) := by kernel_rfl
theorem J80_2_eq (C : Caller) (e : FEnv) (M : Mem) : J80_2 C e M = (stepK C M (some true) (.val (.bool true) M) (fun t6 M26 => (some (t6, M26)))) := by kernel_rfl
theorem W80_3_eq (C : Caller) (e : FEnv) (M : Mem) : W80_3 C e M = (stepK C M (some true) (evBin prog M .lss 3 (e 34) (e 33)) (fun t35 M27 => (condK t35 (J80_4 C (fput e (some 35) t35) M27) (J80_2 C (fput e (some 35) t35) M27)))) :=
  Eq.trans (b := codeK prog C (.loop c80_18) (J80_2 C) (blockX 0 (J80_2 C) noneX) (retK prog f80.results) e M) (by kernel_rfl) ((congrFun (congrFun (loopK_fix C c80_18 (J80_2 C) (blockX 0 (J80_2 C) noneX) (retK prog f80.results)) e) M).trans (by kernel_rfl))
theorem J80_4_eq (C : Caller) (e : FEnv) (M : Mem) : J80_4 C e M = (stepK C M (some true) (.val (e 34) M) (fun t36 M28 => (stepK C M28 (some true) (evIndexAddr prog M28 104 (e 32) (e 34)) (fun t37 M29 => (stepK C M29 (some true) (evLoad prog M29 41 t37) (fun t38 M30 => (stepK C M30 (some true) (evNew M30 (zero prog 41)) (fun t8 M31 => (stepK C M31 (some true) (.val t36 M31) (fun t7 M32 => (stepK C M32 (some true) (evStore prog M32 41 t8 t38) (fun _ M33 => (stepK C M33 (some true) (evFieldAddr prog M33 41 t8 0) (fun t39 M34 => (stepK C M34 (some true) (evLoad prog M34 2 t39) (fun t40 M35 => (stepK C M35 (some true) (.call 122 [t40, (.int .i64 1)]) (fun t41 M36 => (stepK C M36 (some true) (OpR.ofOpt M36 (unOp .not t41)) (fun t42 M37 => (stepK C M37 (some true) (.val t42 M37) (fun t43 M38 => (stepK C M38 (wantB false t43) (evFieldAddr prog M38 41 t8 1) (fun t44 M39 => (stepK C M39 (wantB false t43) (evLoad prog M39 2 t44) (fun t45 M40 => (stepK C M40 (wantB false t43) (.call 122 [t45, (.int .i64 1)]) (fun t46 M41 => (stepK C M41 (wantB false t43) (OpR.ofOpt M41 (unOp .not t46)) (fun t47 M42 => (stepK C M42 (some true) (evPick M42 t43 (.bool true) t47) (fun t48 M43 => (condK t48 (stepK C M43 (some true) (.val (.bool false) M43) (fun t6 M44 => (some (t6, M44)))) (J80_6 C (fput (fput (fput (fput (fput (fput (fput (fput (fput (fput (fput (fput (fput (fput (fput e (some 36) t36) (some 37) t37) (some 38) t38) (some 8) t8) (some 7) t7) (some 39) t39) (some 40) t40) (some 41) t41) (some 42) t42) (some 43) t43) (some 44) t44) (some 45) t45) (some 46) t46) (some 47) t47) (some 48) t48) M43)))))))))))))))))))))))))))))))))) := by kernel_rfl
theorem J80_5_eq (C : Caller) (e : FEnv) (M : Mem) : J80_5 C e M = (stepK C M (some true) (evBin prog M .add 3 (e 34) (.int .i64 1)) (fun t76 M45 => (stepK C M45 (some true) (.val t76 M45) (fun t34 M46 => (W80_3 C (fput (fput e (some 76) t76) (some 34) t34) M46))))) := by kernel_rfl
theorem J80_6_eq (C : Caller) (e : FEnv) (M : Mem) : J80_6 C e M = (stepK C M (some true) (evFieldAddr prog M 41 (e 8) 1) (fun t49 M47 => (stepK C M47 (some true) (evLoad prog M47 2 t49) (fun t50 M48 => (stepK C M48 (some true) (.val t50 M48) (fun t9 M49 => (stepK C M49 (some true) (.val (e 1) M49) (fun t51 M50 => (stepK C M50 (some true) (Go.VE.builtin prog M50 .len #[23] [t51]) (fun t52 M51 => (stepK C M51 (some true) (.val (.int .i64 0) M51) (fun t53 M52 => (W80_8 C (fput (fput (fput (fput (fput (fput e (some 49) t49) (some 50) t50) (some 9) t9) (some 51) t51) (some 52) t52) (some 53) t53) M52))))))))))))) := by kernel_rfl
theorem J80_7_eq (C : Caller) (e : FEnv) (M : Mem) : J80_7 C e M = (stepK C M (some true) (evFieldAddr prog M 41 (e 8) 0) (fun t72 M53 => (stepK C M53 (some true) (evLoad prog M53 2 t72) (fun t73 M54 => (stepK C M54 (some true) (.val (e 9) M54) (fun t74 M55 => (stepK C M55 (some true) (evBin prog M55 .lss 2 t73 t74) (fun t75 M56 => (condK t75 (stepK C M56 (some true) (.val (.bool false) M56) (fun t6 M57 => (some (t6, M57)))) (J80_5 C (fput (fput (fput (fput e (some 72) t72) (some 73) t73) (some 74) t74) (some 75) t75) M56)))))))))) := by kernel_rfl
theorem W80_8_eq (C : Caller) (e : FEnv) (M : Mem) : W80_8 C e M = (stepK C M (some true) (evBin prog M .lss 3 (e 53) (e 52)) (fun t54 M58 => (condK t54 (J80_9 C (fput e (some 54) t54) M58) (J80_7 C (fput e (some 54) t54) M58)))) :=
  Eq.trans (b := codeK prog C (.loop c80_51) (J80_7 C) (blockX 2 (J80_7 C) (blockX 1 (J80_5 C) (blockX 0 (J80_2 C) noneX))) (retK prog f80.results) e M) (by kernel_rfl) ((congrFun (congrFun (loopK_fix C c80_51 (J80_7 C) (blockX 2 (J80_7 C) (blockX 1 (J80_5 C) (blockX 0 (J80_2 C) noneX))) (retK prog f80.results)) e) M).trans (by kernel_rfl))
theorem J80_9_eq (C : Caller) (e : FEnv) (M : Mem) : J80_9 C e M = (stepK C M (some true) (evIndexAddr prog M 23 (e 51) (e 53)) (fun t55 M59 => (stepK C M59 (some true) (evLoad prog M59 210 t55) (fun t56 M60 => (stepK C M60 (some true) (evNew M60 (zero prog 210)) (fun t11 M61 => (stepK C M61 (some true) (evStore prog M61 210 t11 t56) (fun _ M62 => (stepK C M62 (some true) (evFieldAddr prog M62 210 t11 0) (fun t57 M63 => (stepK C M63 (some true) (evLoad prog M63 3 t57) (fun t58 M64 => (stepK C M64 (some true) (.val (e 7) M64) (fun t59 M65 => (stepK C M65 (some true) (evBin prog M65 .eql 3 t58 t59) (fun t60 M66 => (stepK C M66 (some true) (.val t60 M66) (fun t61 M67 => (stepK C M67 (wantB false t61) (evFieldAddr prog M67 210 t11 1) (fun t62 M68 => (stepK C M68 (wantB false t61) (evLoad prog M68 3 t62) (fun t63 M69 => (stepK C M69 (wantB false t61) (.val (e 7) M69) (fun t64 M70 => (stepK C M70 (wantB false t61) (evBin prog M70 .eql 3 t63 t64) (fun t65 M71 => (stepK C M71 (some true) (evPick M71 t61 (.bool true) t65) (fun t66 M72 => (condK t66 (stepK C M72 (some true) (.val (e 9) M72) (fun t67 M73 => (stepK C M73 (some true) (evFieldAddr prog M73 210 t11 2) (fun t68 M74 => (stepK C M74 (some true) (evLoad prog M74 2 t68) (fun t69 M75 => (stepK C M75 (some true) (evBin prog M75 .add 2 t67 t69) (fun t70 M76 => (stepK C M76 (some true) (.val t70 M76) (fun t9 M77 => (J80_10 C (fput (fput (fput (fput (fput (fput (fput (fput (fput (fput (fput (fput (fput (fput (fput (fput (fput (fput e (some 55) t55) (some 56) t56) (some 11) t11) (some 57) t57) (some 58) t58) (some 59) t59) (some 60) t60) (some 61) t61) (some 62) t62) (some 63) t63) (some 64) t64) (some 65) t65) (some 66) t66) (some 67) t67) (some 68) t68) (some 69) t69) (some 70) t70) (some 9) t9) M77))))))))))) (J80_10 C (fput (fput (fput (fput (fput (fput (fput (fput (fput (fput (fput (fput (fput e (some 55) t55) (some 56) t56) (some 11) t11) (some 57) t57) (some 58) t58) (some 59) t59) (some 60) t60) (some 61) t61) (some 62) t62) (some 63) t63) (some 64) t64) (some 65) t65) (some 66) t66) M72)))))))))))))))))))))))))))))) := by kernel_rfl
theorem J80_10_eq (C : Caller) (e : FEnv) (M : Mem) : J80_10 C e M = (stepK C M (some true) (evBin prog M .add 3 (e 53) (.int .i64 1)) (fun t71 M78 => (stepK C M78 (some true) (.val t71 M78) (fun t53 M79 => (W80_8 C (fput (fput e (some 71) t71) (some 53) t53) M79))))) := by kernel_rfl
theorem run80 {L : Lib} (hL : L 80 = none) (args : List AVal) (M : Mem) : callW prog L 80 args M = J80_0 (callW prog L) (argsF args) M :=
  callW_run hL (fn := f80) (by kernel_rfl) (b := c80) (by kernel_rfl) args M
/-! platformfw/platformfwref36.Check -/
noncomputable def c83 : Code := bodyOf f83
noncomputable def J83_0 (C : Caller) : Kn := codeK prog C c83 (retK prog f83.results) noneX (retK prog f83.results)
noncomputable def c83_1 : Code := cr c83
noncomputable def c83_2 : Code := cl c83
noncomputable def c83_3 : Code := cr c83_1
noncomputable def c83_4 : Code := cl c83_1
noncomputable def c83_5 : Code := cr c83_4
noncomputable def c83_6 : Code := cl c83_4
noncomputable def J83_1 (C : Caller) : Kn := codeK prog C c83_3 (retK prog f83.results) noneX (retK prog f83.results)
noncomputable def c83_7 : Code := cl c83_5
noncomputable def c83_8 : Code := cr c83_7
noncomputable def c83_9 : Code := cl c83_7
noncomputable def c83_10 : Code := cr c83_5
noncomputable def c83_11 : Code := cr c83_3
noncomputable def c83_12 : Code := cl c83_3
noncomputable def c83_13 : Code := cr c83_12
noncomputable def c83_14 : Code := cl c83_12
noncomputable def J83_2 (C : Caller) : Kn := codeK prog C c83_11 (retK prog f83.results) noneX (retK prog f83.results)
noncomputable def c83_15 : Code := cl c83_13
noncomputable def W83_3 (C : Caller) : Kn := codeK prog C c83_15 (J83_2 C) (blockX 0 (J83_2 C) noneX) (retK prog f83.results)
noncomputable def c83_16 : Code := cr c83_11
noncomputable def c83_17 : Code := cl c83_11
noncomputable def c83_18 : Code := cl c83_15
noncomputable def c83_19 : Code := cr c83_18
noncomputable def c83_20 : Code := cl c83_18
noncomputable def c83_21 : Code := cr c83_20
noncomputable def c83_22 : Code := cl c83_20
noncomputable def J83_4 (C : Caller) : Kn := codeK prog C c83_19 (W83_3 C) (blockX 0 (J83_2 C) noneX) (retK prog f83.results)
noncomputable def c83_23 : Code := cl c83_21
noncomputable def c83_24 : Code := cr c83_21
noncomputable def c83_25 : Code := cr c83_19
noncomputable def c83_26 : Code := cl c83_19
noncomputable def J83_5 (C : Caller) : Kn := codeK prog C c83_25 (W83_3 C) (blockX 0 (J83_2 C) noneX) (retK prog f83.results)
noncomputable def c83_27 : Code := cl c83_26
noncomputable def c83_28 : Code := cr c83_27
noncomputable def c83_29 : Code := cl c83_27
noncomputable def c83_30 : Code := cr c83_28
noncomputable def c83_31 : Code := cl c83_28
noncomputable def c83_32 : Code := cr c83_31
noncomputable def c83_33 : Code := cl c83_31
noncomputable def J83_6 (C : Caller) : Kn := codeK prog C c83_30 (J83_5 C) (blockX 1 (J83_5 C) (blockX 0 (J83_2 C) noneX)) (retK prog f83.results)
noncomputable def c83_34 : Code := cl c83_32
noncomputable def c83_35 : Code := cr c83_34
noncomputable def c83_36 : Code := cl c83_34
noncomputable def c83_37 : Code := cr c83_32
noncomputable def c83_38 : Code := cr c83_30
noncomputable def c83_39 : Code := cl c83_30
noncomputable def c83_40 : Code := cl c83_38
noncomputable def c83_41 : Code := cr c83_40
noncomputable def c83_42 : Code := cl c83_40
noncomputable def c83_43 : Code := cr c83_38
theorem J83_0_eq (C : Caller) (e : FEnv) (M : Mem) : J83_0 C e M = (stepK C M (some true) (.val (.int .i64 0) M) (fun t2 M1 => (stepK C M1 (some true) (.val (e 0) M1) (fun t5 M2 => (stepK C M2 (some true) (Go.VE.builtin prog M2 .len #[42] [t5]) (fun t6 M3 => (stepK C M3 (some true) (evBin prog M3 .lss 3 t6 (.int .i64 1)) (fun t7 M4 => (stepK C M4 (some true) (.val t7 M4) (fun t8 M5 => (stepK C M5 (wantB false t8) (.val (e 0) M5) (fun t9 M6 => (stepK C M6 (wantB false t8) (Go.VE.builtin prog M6 .len #[42] [t9]) (fun t10 M7 => (stepK C M7 (wantB false t8) (evBin prog M7 .gtr 3 t10 (.int .i64 16)) (fun t11 M8 => (stepK C M8 (some true) (evPick M8 t8 (.bool true) t11) (fun t12 M9 => (condK t12 (stepK C M9 (some true) (.val (.int .i64 1) M9) (fun t2 M10 => (some (t2, M10)))) (J83_1 C (fput (fput (fput (fput (fput (fput (fput (fput (fput e (some 2) t2) (some 5) t5) (some 6) t6) (some 7) t7) (some 8) t8) (some 9) t9) (some 10) t10) (some 11) t11) (some 12) t12) M9)))))))))))))))))))) := by kernel_rfl
theorem J83_1_eq (C : Caller) (e : FEnv) (M : Mem) : J83_1 C e M = (stepK C M (some true) (.val (.int .i64 0) M) (fun t3 M11 => (W83_3 C (fput e (some 3) t3) M11))) := by kernel_rfl
theorem J83_2_eq (C : Caller) (e : FEnv) (M : Mem) : J83_2 C e M = (stepK C M (some true) (.val (.int .i64 0) M) (fun t2 M12 => (some (t2, M12)))) := by kernel_rfl
theorem W83_3_eq (C : Caller) (e : FEnv) (M : Mem) : W83_3 C e M = (stepK C M (some true) (.val (e 3) M) (fun t13 M13 => (stepK C M13 (some true) (.val (e 0) M13) (fun t14 M14 => (stepK C M14 (some true) (Go.VE.builtin prog M14 .len #[42] [t14]) (fun t15 M15 => (stepK C M15 (some true) (evBin prog M15 .lss 3 t13 t15) (fun t16 M16 => (condK t16 (J83_4 C (fput (fput (fput (fput e (some 13) t13) (some 14) t14) (some 15) t15) (some 16) t16) M16) (J83_2 C (fput (fput (fput (fput e (some 13) t13) (some 14) t14) (some 15) t15) (some 16) t16) M16)))))))))) :=
  Eq.trans (b := codeK prog C (.loop c83_18) (J83_2 C) (blockX 0 (J83_2 C) noneX) (retK prog f83.results) e M) (by kernel_rfl) ((congrFun (congrFun (loopK_fix C c83_18 (J83_2 C) (blockX 0 (J83_2 C) noneX) (retK prog f83.results)) e) M).trans (by kernel_rfl))
theorem J83_4_eq (C : Caller) (e : FEnv) (M : Mem) : J83_4 C e M = (stepK C M (some true) (.val (e 0) M) (fun t19 M17 => (stepK C M17 (some true) (.val (e 3) M17) (fun t20 M18 => (stepK C M18 (some true) (evIndexAddr prog M18 42 t19 t20) (fun t21 M19 => (stepK C M19 (some true) (evLoad prog M19 61 t21) (fun t22 M20 => (stepK C M20 (some true) (evNew M20 (zero prog 61)) (fun t4 M21 => (stepK C M21 (some true) (evStore prog M21 61 t4 t22) (fun _ M22 => (stepK C M22 (some true) (evFieldAddr prog M22 61 t4 0) (fun t23 M23 => (stepK C M23 (some true) (evLoad prog M23 24 t23) (fun t24 M24 => (stepK C M24 (some true) (evBin prog M24 .lss 24 t24 (.int .u64 1)) (fun t25 M25 => (stepK C M25 (some true) (.val t25 M25) (fun t26 M26 => (stepK C M26 (wantB false t26) (evFieldAddr prog M26 61 t4 0) (fun t27 M27 => (stepK C M27 (wantB false t26) (evLoad prog M27 24 t27) (fun t28 M28 => (stepK C M28 (wantB false t26) (evBin prog M28 .gtr 24 t28 (.int .u64 1099511627776)) (fun t29 M29 => (stepK C M29 (some true) (evPick M29 t26 (.bool true) t29) (fun t30 M30 => (stepK C M30 (some true) (.val t30 M30) (fun t31 M31 => (stepK C M31 (wantB false t31) (evFieldAddr prog M31 61 t4 1) (fun t32 M32 => (stepK C M32 (wantB false t31) (evLoad prog M32 24 t32) (fun t33 M33 => (stepK C M33 (wantB false t31) (evBin prog M33 .gtr 24 t33 (.int .u64 1099511627776)) (fun t34 M34 => (stepK C M34 (some true) (evPick M34 t31 (.bool true) t34) (fun t35 M35 => (stepK C M35 (some true) (.val t35 M35) (fun t36 M36 => (stepK C M36 (wantB false t36) (evFieldAddr prog M36 61 t4 2) (fun t37 M37 => (stepK C M37 (wantB false t36) (evLoad prog M37 24 t37) (fun t38 M38 => (stepK C M38 (wantB false t36) (evBin prog M38 .gtr 24 t38 (.int .u64 1099511627776)) (fun t39 M39 => (stepK C M39 (some true) (evPick M39 t36 (.bool true) t39) (fun t40 M40 => (condK t40 (stepK C M40 (some true) (.val (.int .i64 1) M40) (fun t2 M41 => (some (t2, M41)))) (J83_6 C (fput (fput (fput (fput (fput (fput (fput (fput (fput (fput (fput (fput (fput (fput (fput (fput (fput (fput (fput (fput (fput (fput (fput e (some 19) t19) (some 20) t20) (some 21) t21) (some 22) t22) (some 4) t4) (some 23) t23) (some 24) t24) (some 25) t25) (some 26) t26) (some 27) t27) (some 28) t28) (some 29) t29) (some 30) t30) (some 31) t31) (some 32) t32) (some 33) t33) (some 34) t34) (some 35) t35) (some 36) t36) (some 37) t37) (some 38) t38) (some 39) t39) (some 40) t40) M40)))))))))))))))))))))))))))))))))))))))))))))))))) := by kernel_rfl
theorem J83_5_eq (C : Caller) (e : FEnv) (M : Mem) : J83_5 C e M = (stepK C M (some true) (.val (e 3) M) (fun t17 M42 => (stepK C M42 (some true) (evBin prog M42 .add 3 t17 (.int .i64 1)) (fun t18 M43 => (stepK C M43 (some true) (.val t18 M43) (fun t3 M44 => (W83_3 C (fput (fput (fput e (some 17) t17) (some 18) t18) (some 3) t3) M44))))))) := by kernel_rfl
theorem J83_6_eq (C : Caller) (e : FEnv) (M : Mem) : J83_6 C e M = (stepK C M (some true) (.val (e 3) M) (fun t41 M45 => (stepK C M45 (some true) (evBin prog M45 .gtr 3 t41 (.int .i64 0)) (fun t42 M46 => (stepK C M46 (some true) (.val t42 M46) (fun t43 M47 => (stepK C M47 (wantB true t43) (evFieldAddr prog M47 61 (e 4) 0) (fun t44 M48 => (stepK C M48 (wantB true t43) (evLoad prog M48 24 t44) (fun t45 M49 => (stepK C M49 (wantB true t43) (.val (e 0) M49) (fun t46 M50 => (stepK C M50 (wantB true t43) (.val (e 3) M50) (fun t47 M51 => (stepK C M51 (wantB true t43) (evBin prog M51 .sub 3 t47 (.int .i64 1)) (fun t48 M52 => (stepK C M52 (wantB true t43) (evIndexAddr prog M52 42 t46 t48) (fun t49 M53 => (stepK C M53 (wantB true t43) (evFieldAddr prog M53 61 t49 0) (fun t50 M54 => (stepK C M54 (wantB true t43) (evLoad prog M54 24 t50) (fun t51 M55 => (stepK C M55 (wantB true t43) (evBin prog M55 .leq 24 t45 t51) (fun t52 M56 => (stepK C M56 (wantB true t43) (.val t52 M56) (fun t53 M57 => (stepK C M57 (wantB false t53) (evFieldAddr prog M57 61 (e 4) 1) (fun t54 M58 => (stepK C M58 (wantB false t53) (evLoad prog M58 24 t54) (fun t55 M59 => (stepK C M59 (wantB false t53) (.val (e 0) M59) (fun t56 M60 => (stepK C M60 (wantB false t53) (.val (e 3) M60) (fun t57 M61 => (stepK C M61 (wantB false t53) (evBin prog M61 .sub 3 t57 (.int .i64 1)) (fun t58 M62 => (stepK C M62 (wantB false t53) (evIndexAddr prog M62 42 t56 t58) (fun t59 M63 => (stepK C M63 (wantB false t53) (evFieldAddr prog M63 61 t59 1) (fun t60 M64 => (stepK C M64 (wantB false t53) (evLoad prog M64 24 t60) (fun t61 M65 => (stepK C M65 (wantB false t53) (evBin prog M65 .lss 24 t55 t61) (fun t62 M66 => (stepK C M66 (wantB true t43) (evPick M66 t53 (.bool true) t62) (fun t63 M67 => (stepK C M67 (wantB true t43) (.val t63 M67) (fun t64 M68 => (stepK C M68 (wantB false t64) (evFieldAddr prog M68 61 (e 4) 2) (fun t65 M69 => (stepK C M69 (wantB false t64) (evLoad prog M69 24 t65) (fun t66 M70 => (stepK C M70 (wantB false t64) (.val (e 0) M70) (fun t67 M71 => (stepK C M71 (wantB false t64) (.val (e 3) M71) (fun t68 M72 => (stepK C M72 (wantB false t64) (evBin prog M72 .sub 3 t68 (.int .i64 1)) (fun t69 M73 => (stepK C M73 (wantB false t64) (evIndexAddr prog M73 42 t67 t69) (fun t70 M74 => (stepK C M74 (wantB false t64) (evFieldAddr prog M74 61 t70 2) (fun t71 M75 => (stepK C M75 (wantB false t64) (evLoad prog M75 24 t71) (fun t72 M76 => (stepK C M76 (wantB false t64) (evBin prog M76 .lss 24 t66 t72) (fun t73 M77 => (stepK C M77 (wantB true t43) (evPick M77 t64 (.bool true) t73) (fun t74 M78 => (stepK C M78 (some true) (evPick M78 t43 t74 (.bool false)) (fun t75 M79 => (condK t75 (stepK C M79 (some true) (.val (.int .i64 1) M79) (fun t2 M80 => (some (t2, M80)))) (J83_5 C (fput (fput (fput (fput (fput (fput (fput (fput (fput (fput (fput (fput (fput (fput (fput (fput (fput (fput (fput (fput (fput (fput (fput (fput (fput (fput (fput (fput (fput (fput (fput (fput (fput (fput (fput e (some 41) t41) (some 42) t42) (some 43) t43) (some 44) t44) (some 45) t45) (some 46) t46) (some 47) t47) (some 48) t48) (some 49) t49) (some 50) t50) (some 51) t51) (some 52) t52) (some 53) t53) (some 54) t54) (some 55) t55) (some 56) t56) (some 57) t57) (some 58) t58) (some 59) t59) (some 60) t60) (some 61) t61) (some 62) t62) (some 63) t63) (some 64) t64) (some 65) t65) (some 66) t66) (some 67) t67) (some 68) t68) (some 69) t69) (some 70) t70) (some 71) t71) (some 72) t72) (some 73) t73) (some 74) t74) (some 75) t75) M79)))))))))))))))))))))))))))))))))))))))))))))))))))))))))))))))))))))))) := by kernel_rfl
theorem run83 {L : Lib} (hL : L 83 = none) (args : List AVal) (M : Mem) : callW prog L 83 args M = J83_0 (callW prog L) (argsF args) M :=
  callW_run hL (fn := f83) (by kernel_rfl) (b := c83) (by kernel_rfl) args M
/-! platformfw/platformfwref39.CheckTrips -/
noncomputable def c84 : Code := bodyOf f84
noncomputable def J84_0 (C : Caller) : Kn := codeK prog C c84 (retK prog f84.results) noneX (retK prog f84.results)
noncomputable def c84_1 : Code := cr c84
noncomputable def c84_2 : Code := cl c84
noncomputable def c84_3 : Code := cr c84_1
noncomputable def c84_4 : Code := cl c84_1
noncomputable def c84_5 : Code := cr c84_4
noncomputable def c84_6 : Code := cl c84_4
noncomputable def J84_1 (C : Caller) : Kn := codeK prog C c84_3 (retK prog f84.results) noneX (retK prog f84.results)
noncomputable def c84_7 : Code := cl c84_5
noncomputable def c84_8 : Code := cr c84_7
noncomputable def c84_9 : Code := cl c84_7
noncomputable def c84_10 : Code := cr c84_5
noncomputable def c84_11 : Code := cr c84_3
noncomputable def c84_12 : Code := cl c84_3
noncomputable def c84_13 : Code := cr c84_12
noncomputable def c84_14 : Code := cl c84_12
noncomputable def J84_2 (C : Caller) : Kn := codeK prog C c84_11 (retK prog f84.results) noneX (retK prog f84.results)
noncomputable def c84_15 : Code := cl c84_13
noncomputable def W84_3 (C : Caller) : Kn := codeK prog C c84_15 (J84_2 C) (blockX 0 (J84_2 C) noneX) (retK prog f84.results)
noncomputable def c84_16 : Code := cr c84_11
noncomputable def c84_17 : Code := cl c84_11
noncomputable def c84_18 : Code := cl c84_15
noncomputable def c84_19 : Code := cr c84_18
noncomputable def c84_20 : Code := cl c84_18
noncomputable def c84_21 : Code := cr c84_20
noncomputable def c84_22 : Code := cl c84_20
noncomputable def J84_4 (C : Caller) : Kn := codeK prog C c84_19 (W84_3 C) (blockX 0 (J84_2 C) noneX) (retK prog f84.results)
noncomputable def c84_23 : Code := cl c84_21
noncomputable def c84_24 : Code := cr c84_21
noncomputable def c84_25 : Code := cr c84_19
noncomputable def c84_26 : Code := cl c84_19
noncomputable def J84_5 (C : Caller) : Kn := codeK prog C c84_25 (W84_3 C) (blockX 0 (J84_2 C) noneX) (retK prog f84.results)
noncomputable def c84_27 : Code := cl c84_26
noncomputable def c84_28 : Code := cr c84_27
noncomputable def c84_29 : Code := cl c84_27
noncomputable def c84_30 : Code := cr c84_28
noncomputable def c84_31 : Code := cl c84_28
noncomputable def c84_32 : Code := cl c84_30
noncomputable def c84_33 : Code := cr c84_32
noncomputable def c84_34 : Code := cl c84_32
noncomputable def c84_35 : Code := cr c84_30
theorem J84_0_eq (C : Caller) (e : FEnv) (M : Mem) : J84_0 C e M = (stepK C M (some true) (.val (.int .i64 0) M) (fun t2 M1 => (stepK C M1 (some true) (.val (e 0) M1) (fun t5 M2 => (stepK C M2 (some true) (Go.VE.builtin prog M2 .len #[43] [t5]) (fun t6 M3 => (stepK C M3 (some true) (evBin prog M3 .gtr 3 t6 (.int .i64 12)) (fun t7 M4 => (condK t7 (stepK C M4 (some true) (.val (.int .i64 1) M4) (fun t2 M5 => (some (t2, M5)))) (J84_1 C (fput (fput (fput (fput e (some 2) t2) (some 5) t5) (some 6) t6) (some 7) t7) M4)))))))))) := by kernel_rfl
theorem J84_1_eq (C : Caller) (e : FEnv) (M : Mem) : J84_1 C e M = (stepK C M (some true) (.val (.int .i64 0) M) (fun t3 M6 => (W84_3 C (fput e (some 3) t3) M6))) := by kernel_rfl
theorem J84_2_eq (C : Caller) (e : FEnv) (M : Mem) : J84_2 C e M = (stepK C M (some true) (.val (.int .i64 0) M) (fun t2 M7 => (some (t2, M7)))) := by kernel_rfl
theorem W84_3_eq (C : Caller) (e : FEnv) (M : Mem) : W84_3 C e M = (stepK C M (some true) (.val (e 3) M) (fun t8 M8 => (stepK C M8 (some true) (.val (e 0) M8) (fun t9 M9 => (stepK C M9 (some true) (Go.VE.builtin prog M9 .len #[43] [t9]) (fun t10 M10 => (stepK C M10 (some true) (evBin prog M10 .lss 3 t8 t10) (fun t11 M11 => (condK t11 (J84_4 C (fput (fput (fput (fput e (some 8) t8) (some 9) t9) (some 10) t10) (some 11) t11) M11) (J84_2 C (fput (fput (fput (fput e (some 8) t8) (some 9) t9) (some 10) t10) (some 11) t11) M11)))))))))) :=
  Eq.trans (b := codeK prog C (.loop c84_18) (J84_2 C) (blockX 0 (J84_2 C) noneX) (retK prog f84.results) e M) (by kernel_rfl) ((congrFun (congrFun (loopK_fix C c84_18 (J84_2 C) (blockX 0 (J84_2 C) noneX) (retK prog f84.results)) e) M).trans (by kernel_rfl))
theorem J84_4_eq (C : Caller) (e : FEnv) (M : Mem) : J84_4 C e M = (stepK C M (some true) (.val (e 0) M) (fun t14 M12 => (stepK C M12 (some true) (.val (e 3) M12) (fun t15 M13 => (stepK C M13 (some true) (evIndexAddr prog M13 43 t14 t15) (fun t16 M14 => (stepK C M14 (some true) (evLoad prog M14 205 t16) (fun t17 M15 => (stepK C M15 (some true) (evNew M15 (zero prog 205)) (fun t4 M16 => (stepK C M16 (some true) (evStore prog M16 205 t4 t17) (fun _ M17 => (stepK C M17 (some true) (evFieldAddr prog M17 205 t4 0) (fun t18 M18 => (stepK C M18 (some true) (evLoad prog M18 3 t18) (fun t19 M19 => (stepK C M19 (some true) (evBin prog M19 .lss 3 t19 (.int .i64 1)) (fun t20 M20 => (stepK C M20 (some true) (.val t20 M20) (fun t21 M21 => (stepK C M21 (wantB false t21) (evFieldAddr prog M21 205 t4 0) (fun t22 M22 => (stepK C M22 (wantB false t21) (evLoad prog M22 3 t22) (fun t23 M23 => (stepK C M23 (wantB false t21) (evBin prog M23 .gtr 3 t23 (.int .i64 3)) (fun t24 M24 => (stepK C M24 (some true) (evPick M24 t21 (.bool true) t24) (fun t25 M25 => (stepK C M25 (some true) (.val t25 M25) (fun t26 M26 => (stepK C M26 (wantB false t26) (evFieldAddr prog M26 205 t4 1) (fun t27 M27 => (stepK C M27 (wantB false t26) (evLoad prog M27 2 t27) (fun t28 M28 => (stepK C M28 (wantB false t26) (evBin prog M28 .lss 2 t28 (.int .i64 (-67108864))) (fun t29 M29 => (stepK C M29 (some true) (evPick M29 t26 (.bool true) t29) (fun t30 M30 => (stepK C M30 (some true) (.val t30 M30) (fun t31 M31 => (stepK C M31 (wantB false t31) (evFieldAddr prog M31 205 t4 1) (fun t32 M32 => (stepK C M32 (wantB false t31) (evLoad prog M32 2 t32) (fun t33 M33 => (stepK C M33 (wantB false t31) (evBin prog M33 .gtr 2 t33 (.int .i64 67108864)) (fun t34 M34 => (stepK C M34 (some true) (evPick M34 t31 (.bool true) t34) (fun t35 M35 => (stepK C M35 (some true) (.val t35 M35) (fun t36 M36 => (stepK C M36 (wantB false t36) (evFieldAddr prog M36 205 t4 2) (fun t37 M37 => (stepK C M37 (wantB false t36) (evLoad prog M37 2 t37) (fun t38 M38 => (stepK C M38 (wantB false t36) (evBin prog M38 .lss 2 t38 (.int .i64 0)) (fun t39 M39 => (stepK C M39 (some true) (evPick M39 t36 (.bool true) t39) (fun t40 M40 => (stepK C M40 (some true) (.val t40 M40) (fun t41 M41 => (stepK C M41 (wantB false t41) (evFieldAddr prog M41 205 t4 2) (fun t42 M42 => (stepK C M42 (wantB false t41) (evLoad prog M42 2 t42) (fun t43 M43 => (stepK C M43 (wantB false t41) (evBin prog M43 .gtr 2 t43 (.int .i64 16777216)) (fun t44 M44 => (stepK C M44 (some true) (evPick M44 t41 (.bool true) t44) (fun t45 M45 => (condK t45 (stepK C M45 (some true) (.val (.int .i64 1) M45) (fun t2 M46 => (some (t2, M46)))) (J84_5 C (fput (fput (fput (fput (fput (fput (fput (fput (fput (fput (fput (fput (fput (fput (fput (fput (fput (fput (fput (fput (fput (fput (fput (fput (fput (fput (fput (fput (fput (fput (fput (fput (fput e (some 14) t14) (some 15) t15) (some 16) t16) (some 17) t17) (some 4) t4) (some 18) t18) (some 19) t19) (some 20) t20) (some 21) t21) (some 22) t22) (some 23) t23) (some 24) t24) (some 25) t25) (some 26) t26) (some 27) t27) (some 28) t28) (some 29) t29) (some 30) t30) (some 31) t31) (some 32) t32) (some 33) t33) (some 34) t34) (some 35) t35) (some 36) t36) (some 37) t37) (some 38) t38) (some 39) t39) (some 40) t40) (some 41) t41) (some 42) t42) (some 43) t43) (some 44) t44) (some 45) t45) M45)))))))))))))))))))))))))))))))))))))))))))))))))))))))))))))))))))))) := by kernel_rfl
theorem J84_5_eq (C : Caller) (e : FEnv) (M : Mem) : J84_5 C e M = (stepK C M (some true) (.val (e 3) M) (fun t12 M47 => (stepK C M47 (some true) (evBin prog M47 .add 3 t12 (.int .i64 1)) (fun t13 M48 => (stepK C M48 (some true) (.val t13 M48) (fun t3 M49 => (W84_3 C (fput (fput (fput e (some 12) t12) (some 13) t13) (some 3) t3) M49))))))) := by kernel_rfl
theorem run84 {L : Lib} (hL : L 84 = none) (args : List AVal) (M : Mem) : callW prog L 84 args M = J84_0 (callW prog L) (argsF args) M :=
  callW_run hL (fn := f84) (by kernel_rfl) (b := c84) (by kernel_rfl) args M
/-! platformfw/platformfwref38.valid -/
noncomputable def c85 : Code := bodyOf f85
noncomputable def J85_0 (C : Caller) : Kn := codeK prog C c85 (retK prog f85.results) noneX (retK prog f85.results)
noncomputable def c85_1 : Code := cr c85
noncomputable def c85_2 : Code := cl c85
noncomputable def c85_3 : Code := cr c85_1
noncomputable def c85_4 : Code := cl c85_1
noncomputable def c85_5 : Code := cr c85_4
noncomputable def c85_6 : Code := cl c85_4
noncomputable def J85_1 (C : Caller) : Kn := codeK prog C c85_3 (retK prog f85.results) noneX (retK prog f85.results)
noncomputable def c85_7 : Code := cl c85_5
noncomputable def c85_8 : Code := cr c85_7
noncomputable def c85_9 : Code := cl c85_7
noncomputable def c85_10 : Code := cr c85_5
noncomputable def c85_11 : Code := cr c85_3
noncomputable def c85_12 : Code := cl c85_3
noncomputable def c85_13 : Code := cr c85_11
noncomputable def c85_14 : Code := cl c85_11
noncomputable def c85_15 : Code := cr c85_14
noncomputable def c85_16 : Code := cl c85_14
noncomputable def J85_2 (C : Caller) : Kn := codeK prog C c85_13 (retK prog f85.results) noneX (retK prog f85.results)
noncomputable def c85_17 : Code := cl c85_15
noncomputable def W85_3 (C : Caller) : Kn := codeK prog C c85_17 (J85_2 C) (blockX 0 (J85_2 C) noneX) (retK prog f85.results)
noncomputable def c85_18 : Code := cr c85_13
noncomputable def c85_19 : Code := cl c85_13
noncomputable def c85_20 : Code := cr c85_19
noncomputable def c85_21 : Code := cl c85_19
noncomputable def J85_4 (C : Caller) : Kn := codeK prog C c85_18 (retK prog f85.results) noneX (retK prog f85.results)
noncomputable def c85_22 : Code := cl c85_20
noncomputable def W85_5 (C : Caller) : Kn := codeK prog C c85_22 (J85_4 C) (blockX 2 (J85_4 C) noneX) (retK prog f85.results)
noncomputable def c85_23 : Code := cl c85_17
noncomputable def c85_24 : Code := cr c85_23
noncomputable def c85_25 : Code := cl c85_23
noncomputable def c85_26 : Code := cr c85_25
noncomputable def c85_27 : Code := cl c85_25
noncomputable def J85_6 (C : Caller) : Kn := codeK prog C c85_24 (W85_3 C) (blockX 0 (J85_2 C) noneX) (retK prog f85.results)
noncomputable def c85_28 : Code := cl c85_26
noncomputable def c85_29 : Code := cr c85_26
noncomputable def c85_30 : Code := cr c85_18
noncomputable def c85_31 : Code := cl c85_18
noncomputable def c85_32 : Code := cl c85_22
noncomputable def c85_33 : Code := cr c85_32
noncomputable def c85_34 : Code := cl c85_32
noncomputable def c85_35 : Code := cr c85_34
noncomputable def c85_36 : Code := cl c85_34
noncomputable def J85_7 (C : Caller) : Kn := codeK prog C c85_33 (W85_5 C) (blockX 2 (J85_4 C) noneX) (retK prog f85.results)
noncomputable def c85_37 : Code := cl c85_35
noncomputable def c85_38 : Code := cr c85_35
noncomputable def c85_39 : Code := cr c85_24
noncomputable def c85_40 : Code := cl c85_24
noncomputable def J85_8 (C : Caller) : Kn := codeK prog C c85_39 (W85_3 C) (blockX 0 (J85_2 C) noneX) (retK prog f85.results)
noncomputable def c85_41 : Code := cl c85_40
noncomputable def c85_42 : Code := cr c85_41
noncomputable def c85_43 : Code := cl c85_41
noncomputable def c85_44 : Code := cr c85_42
noncomputable def c85_45 : Code := cl c85_42
noncomputable def c85_46 : Code := cr c85_45
noncomputable def c85_47 : Code := cl c85_45
noncomputable def J85_9 (C : Caller) : Kn := codeK prog C c85_44 (J85_8 C) (blockX 1 (J85_8 C) (blockX 0 (J85_2 C) noneX)) (retK prog f85.results)
noncomputable def c85_48 : Code := cl c85_46
noncomputable def c85_49 : Code := cr c85_48
noncomputable def c85_50 : Code := cl c85_48
noncomputable def c85_51 : Code := cr c85_46
noncomputable def c85_52 : Code := cr c85_33
noncomputable def c85_53 : Code := cl c85_33
noncomputable def J85_10 (C : Caller) : Kn := codeK prog C c85_52 (W85_5 C) (blockX 2 (J85_4 C) noneX) (retK prog f85.results)
noncomputable def c85_54 : Code := cl c85_53
noncomputable def c85_55 : Code := cr c85_54
noncomputable def c85_56 : Code := cl c85_54
noncomputable def c85_57 : Code := cr c85_55
noncomputable def c85_58 : Code := cl c85_55
noncomputable def c85_59 : Code := cr c85_58
noncomputable def c85_60 : Code := cl c85_58
noncomputable def J85_11 (C : Caller) : Kn := codeK prog C c85_57 (J85_10 C) (blockX 3 (J85_10 C) (blockX 2 (J85_4 C) noneX)) (retK prog f85.results)
noncomputable def c85_61 : Code := cl c85_59
noncomputable def c85_62 : Code := cr c85_61
noncomputable def c85_63 : Code := cl c85_61
noncomputable def c85_64 : Code := cr c85_59
noncomputable def c85_65 : Code := cr c85_57
noncomputable def c85_66 : Code := cl c85_57
noncomputable def c85_67 : Code := cr c85_65
noncomputable def c85_68 : Code := cl c85_65
noncomputable def c85_69 : Code := cr c85_67
noncomputable def c85_70 : Code := cl c85_67
noncomputable def c85_71 : Code := cl c85_69
noncomputable def W85_12 (C : Caller) : Kn := codeK prog C c85_71 (J85_10 C) (blockX 4 (J85_10 C) (blockX 3 (J85_10 C) (blockX 2 (J85_4 C) noneX))) (retK prog f85.results)
noncomputable def c85_72 : Code := cl c85_71
noncomputable def c85_73 : Code := cr c85_72
noncomputable def c85_74 : Code := cl c85_72
noncomputable def c85_75 : Code := cr c85_74
noncomputable def c85_76 : Code := cl c85_74
noncomputable def J85_13 (C : Caller) : Kn := codeK prog C c85_73 (W85_12 C) (blockX 4 (J85_10 C) (blockX 3 (J85_10 C) (blockX 2 (J85_4 C) noneX))) (retK prog f85.results)
noncomputable def c85_77 : Code := cl c85_75
noncomputable def c85_78 : Code := cr c85_75
noncomputable def c85_79 : Code := cr c85_73
noncomputable def c85_80 : Code := cl c85_73
noncomputable def J85_14 (C : Caller) : Kn := codeK prog C c85_79 (W85_12 C) (blockX 4 (J85_10 C) (blockX 3 (J85_10 C) (blockX 2 (J85_4 C) noneX))) (retK prog f85.results)
noncomputable def c85_81 : Code := cl c85_80
noncomputable def c85_82 : Code := cr c85_81
noncomputable def c85_83 : Code := cl c85_81
noncomputable def c85_84 : Code := cl c85_82
noncomputable def c85_85 : Code := cr c85_84
noncomputable def c85_86 : Code := cl c85_84
noncomputable def c85_87 : Code := cr c85_82
theorem J85_0_eq (C : Caller) (e : FEnv) (M : Mem) : J85_0 C e M = (stepK C M (some true) (.val (.bool false) M) (fun t6 M1 => (stepK C M1 (some true) (.val (e 0) M1) (fun t13 M2 => (stepK C M2 (some true) (Go.VE.builtin prog M2 .len #[104] [t13]) (fun t14 M3 => (stepK C M3 (some true) (evBin prog M3 .lss 3 t14 (.int .i64 1)) (fun t15 M4 => (stepK C M4 (some true) (.val t15 M4) (fun t16 M5 => (stepK C M5 (wantB false t16) (.val (e 0) M5) (fun t17 M6 => (stepK C M6 (wantB false t16) (Go.VE.builtin prog M6 .len #[104] [t17]) (fun t18 M7 => (stepK C M7 (wantB false t16) (evBin prog M7 .gtr 3 t18 (.int .i64 16)) (fun t19 M8 => (stepK C M8 (some true) (evPick M8 t16 (.bool true) t19) (fun t20 M9 => (stepK C M9 (some true) (.val t20 M9) (fun t21 M10 => (stepK C M10 (wantB false t21) (.val (e 2) M10) (fun t22 M11 => (stepK C M11 (wantB false t21) (evBin prog M11 .lss 2 t22 (.int .i64 (-16777216))) (fun t23 M12 => (stepK C M12 (some true) (evPick M12 t21 (.bool true) t23) (fun t24 M13 => (stepK C M13 (some true) (.val t24 M13) (fun t25 M14 => (stepK C M14 (wantB false t25) (.val (e 2) M14) (fun t26 M15 => (stepK C M15 (wantB false t25) (evBin prog M15 .gtr 2 t26 (.int .i64 16777216)) (fun t27 M16 => (stepK C M16 (some true) (evPick M16 t25 (.bool true) t27) (fun t28 M17 => (condK t28 (stepK C M17 (some true) (.val (.bool false) M17) (fun t6 M18 => (some (t6, M18)))) (J85_1 C (fput (fput (fput (fput (fput (fput (fput (fput (fput (fput (fput (fput (fput (fput (fput (fput (fput e (some 6) t6) (some 13) t13) (some 14) t14) (some 15) t15) (some 16) t16) (some 17) t17) (some 18) t18) (some 19) t19) (some 20) t20) (some 21) t21) (some 22) t22) (some 23) t23) (some 24) t24) (some 25) t25) (some 26) t26) (some 27) t27) (some 28) t28) M17)))))))))))))))))))))))))))))))))))) := by kernel_rfl
theorem J85_1_eq (C : Caller) (e : FEnv) (M : Mem) : J85_1 C e M = (stepK C M (some true) (.val (e 0) M) (fun t29 M19 => (stepK C M19 (some true) (Go.VE.builtin prog M19 .len #[104] [t29]) (fun t30 M20 => (stepK C M20 (some true) (evMakeSlice prog M20 56 t30 t30) (fun t31 M21 => (stepK C M21 (some true) (.val t31 M21) (fun t7 M22 => (stepK C M22 (some true) (.val (.int .i64 0) M22) (fun t8 M23 => (W85_3 C (fput (fput (fput (fput (fput e (some 29) t29) (some 30) t30) (some 31) t31) (some 7) t7) (some 8) t8) M23))))))))))) := by kernel_rfl
theorem J85_2_eq (C : Caller) (e : FEnv) (M : Mem) : J85_2 C e M = (stepK C M (some true) (.val (.int .i64 0) M) (fun t10 M24 => (W85_5 C (fput e (some 10) t10) M24))) := by kernel_rfl
theorem W85_3_eq (C : Caller) (e : FEnv) (M : Mem) : W85_3 C e M = (stepK C M (some true) (.val (e 8) M) (fun t32 M25 => (stepK C M25 (some true) (.val (e 0) M25) (fun t33 M26 => (stepK C M26 (some true) (Go.VE.builtin prog M26 .len #[104] [t33]) (fun t34 M27 => (stepK C M27 (some true) (evBin prog M27 .lss 3 t32 t34) (fun t35 M28 => (condK t35 (J85_6 C (fput (fput (fput (fput e (some 32) t32) (some 33) t33) (some 34) t34) (some 35) t35) M28) (J85_2 C (fput (fput (fput (fput e (some 32) t32) (some 33) t33) (some 34) t34) (some 35) t35) M28)))))))))) :=
  Eq.trans (b := codeK prog C (.loop c85_23) (J85_2 C) (blockX 0 (J85_2 C) noneX) (retK prog f85.results) e M) (by kernel_rfl) ((congrFun (congrFun (loopK_fix C c85_23 (J85_2 C) (blockX 0 (J85_2 C) noneX) (retK prog f85.results)) e) M).trans (by kernel_rfl))
theorem J85_4_eq (C : Caller) (e : FEnv) (M : Mem) : J85_4 C e M = (stepK C M (some true) (.val (.bool true) M) (fun t6 M29 => (some (t6, M29)))) := by kernel_rfl
theorem W85_5_eq (C : Caller) (e : FEnv) (M : Mem) : W85_5 C e M = (stepK C M (some true) (.val (e 10) M) (fun t65 M30 => (stepK C M30 (some true) (.val (e 1) M30) (fun t66 M31 => (stepK C M31 (some true) (Go.VE.builtin prog M31 .len #[23] [t66]) (fun t67 M32 => (stepK C M32 (some true) (evBin prog M32 .lss 3 t65 t67) (fun t68 M33 => (condK t68 (J85_7 C (fput (fput (fput (fput e (some 65) t65) (some 66) t66) (some 67) t67) (some 68) t68) M33) (J85_4 C (fput (fput (fput (fput e (some 65) t65) (some 66) t66) (some 67) t67) (some 68) t68) M33)))))))))) :=
  Eq.trans (b := codeK prog C (.loop c85_32) (J85_4 C) (blockX 2 (J85_4 C) noneX) (retK prog f85.results) e M) (by kernel_rfl) ((congrFun (congrFun (loopK_fix C c85_32 (J85_4 C) (blockX 2 (J85_4 C) noneX) (retK prog f85.results)) e) M).trans (by kernel_rfl))
theorem J85_6_eq (C : Caller) (e : FEnv) (M : Mem) : J85_6 C e M = (stepK C M (some true) (.val (e 0) M) (fun t38 M34 => (stepK C M34 (some true) (.val (e 8) M34) (fun t39 M35 => (stepK C M35 (some true) (evIndexAddr prog M35 104 t38 t39) (fun t40 M36 => (stepK C M36 (some true) (evLoad prog M36 41 t40) (fun t41 M37 => (stepK C M37 (some true) (evNew M37 (zero prog 41)) (fun t9 M38 => (stepK C M38 (some true) (evStore prog M38 41 t9 t41) (fun _ M39 => (stepK C M39 (some true) (evFieldAddr prog M39 41 t9 1) (fun t42 M40 => (stepK C M40 (some true) (evLoad prog M40 2 t42) (fun t43 M41 => (stepK C M41 (some true) (evBin prog M41 .lss 2 t43 (.int .i64 1)) (fun t44 M42 => (stepK C M42 (some true) (.val t44 M42) (fun t45 M43 => (stepK C M43 (wantB false t45) (evFieldAddr prog M43 41 t9 0) (fun t46 M44 => (stepK C M44 (wantB false t45) (evLoad prog M44 2 t46) (fun t47 M45 => (stepK C M45 (wantB false t45) (evBin prog M45 .gtr 2 t47 (.int .i64 16777216)) (fun t48 M46 => (stepK C M46 (some true) (evPick M46 t45 (.bool true) t48) (fun t49 M47 => (stepK C M47 (some true) (.val t49 M47) (fun t50 M48 => (stepK C M48 (wantB false t50) (evFieldAddr prog M48 41 t9 0) (fun t51 M49 => (stepK C M49 (wantB false t50) (evLoad prog M49 2 t51) (fun t52 M50 => (stepK C M50 (wantB false t50) (evFieldAddr prog M50 41 t9 1) (fun t53 M51 => (stepK C M51 (wantB false t50) (evLoad prog M51 2 t53) (fun t54 M52 => (stepK C M52 (wantB false t50) (evBin prog M52 .lss 2 t52 t54) (fun t55 M53 => (stepK C M53 (some true) (evPick M53 t50 (.bool true) t55) (fun t56 M54 => (condK t56 (stepK C M54 (some true) (.val (.bool false) M54) (fun t6 M55 => (some (t6, M55)))) (J85_9 C (fput (fput (fput (fput (fput (fput (fput (fput (fput (fput (fput (fput (fput (fput (fput (fput (fput (fput (fput (fput e (some 38) t38) (some 39) t39) (some 40) t40) (some 41) t41) (some 9) t9) (some 42) t42) (some 43) t43) (some 44) t44) (some 45) t45) (some 46) t46) (some 47) t47) (some 48) t48) (some 49) t49) (some 50) t50) (some 51) t51) (some 52) t52) (some 53) t53) (some 54) t54) (some 55) t55) (some 56) t56) M54)))))))))))))))))))))))))))))))))))))))))))) := by kernel_rfl
theorem J85_7_eq (C : Caller) (e : FEnv) (M : Mem) : J85_7 C e M = (stepK C M (some true) (.val (e 1) M) (fun t71 M56 => (stepK C M56 (some true) (.val (e 10) M56) (fun t72 M57 => (stepK C M57 (some true) (evIndexAddr prog M57 23 t71 t72) (fun t73 M58 => (stepK C M58 (some true) (evLoad prog M58 210 t73) (fun t74 M59 => (stepK C M59 (some true) (evNew M59 (zero prog 210)) (fun t11 M60 => (stepK C M60 (some true) (evStore prog M60 210 t11 t74) (fun _ M61 => (stepK C M61 (some true) (evFieldAddr prog M61 210 t11 0) (fun t75 M62 => (stepK C M62 (some true) (evLoad prog M62 3 t75) (fun t76 M63 => (stepK C M63 (some true) (evBin prog M63 .lss 3 t76 (.int .i64 0)) (fun t77 M64 => (stepK C M64 (some true) (.val t77 M64) (fun t78 M65 => (stepK C M65 (wantB false t78) (evFieldAddr prog M65 210 t11 0) (fun t79 M66 => (stepK C M66 (wantB false t78) (evLoad prog M66 3 t79) (fun t80 M67 => (stepK C M67 (wantB false t78) (.val (e 0) M67) (fun t81 M68 => (stepK C M68 (wantB false t78) (Go.VE.builtin prog M68 .len #[104] [t81]) (fun t82 M69 => (stepK C M69 (wantB false t78) (evBin prog M69 .geq 3 t80 t82) (fun t83 M70 => (stepK C M70 (some true) (evPick M70 t78 (.bool true) t83) (fun t84 M71 => (stepK C M71 (some true) (.val t84 M71) (fun t85 M72 => (stepK C M72 (wantB false t85) (evFieldAddr prog M72 210 t11 1) (fun t86 M73 => (stepK C M73 (wantB false t85) (evLoad prog M73 3 t86) (fun t87 M74 => (stepK C M74 (wantB false t85) (evBin prog M74 .lss 3 t87 (.int .i64 0)) (fun t88 M75 => (stepK C M75 (some true) (evPick M75 t85 (.bool true) t88) (fun t89 M76 => (stepK C M76 (some true) (.val t89 M76) (fun t90 M77 => (stepK C M77 (wantB false t90) (evFieldAddr prog M77 210 t11 1) (fun t91 M78 => (stepK C M78 (wantB false t90) (evLoad prog M78 3 t91) (fun t92 M79 => (stepK C M79 (wantB false t90) (.val (e 0) M79) (fun t93 M80 => (stepK C M80 (wantB false t90) (Go.VE.builtin prog M80 .len #[104] [t93]) (fun t94 M81 => (stepK C M81 (wantB false t90) (evBin prog M81 .geq 3 t92 t94) (fun t95 M82 => (stepK C M82 (some true) (evPick M82 t90 (.bool true) t95) (fun t96 M83 => (stepK C M83 (some true) (.val t96 M83) (fun t97 M84 => (stepK C M84 (wantB false t97) (evFieldAddr prog M84 210 t11 0) (fun t98 M85 => (stepK C M85 (wantB false t97) (evLoad prog M85 3 t98) (fun t99 M86 => (stepK C M86 (wantB false t97) (evFieldAddr prog M86 210 t11 1) (fun t100 M87 => (stepK C M87 (wantB false t97) (evLoad prog M87 3 t100) (fun t101 M88 => (stepK C M88 (wantB false t97) (evBin prog M88 .eql 3 t99 t101) (fun t102 M89 => (stepK C M89 (some true) (evPick M89 t97 (.bool true) t102) (fun t103 M90 => (stepK C M90 (some true) (.val t103 M90) (fun t104 M91 => (stepK C M91 (wantB false t104) (evFieldAddr prog M91 210 t11 2) (fun t105 M92 => (stepK C M92 (wantB false t104) (evLoad prog M92 2 t105) (fun t106 M93 => (stepK C M93 (wantB false t104) (evBin prog M93 .lss 2 t106 (.int .i64 1)) (fun t107 M94 => (stepK C M94 (some true) (evPick M94 t104 (.bool true) t107) (fun t108 M95 => (stepK C M95 (some true) (.val t108 M95) (fun t109 M96 => (stepK C M96 (wantB false t109) (evFieldAddr prog M96 210 t11 2) (fun t110 M97 => (stepK C M97 (wantB false t109) (evLoad prog M97 2 t110) (fun t111 M98 => (stepK C M98 (wantB false t109) (.val (e 7) M98) (fun t112 M99 => (stepK C M99 (wantB false t109) (evFieldAddr prog M99 210 t11 0) (fun t113 M100 => (stepK C M100 (wantB false t109) (evLoad prog M100 3 t113) (fun t114 M101 => (stepK C M101 (wantB false t109) (evIndexAddr prog M101 56 t112 t114) (fun t115 M102 => (stepK C M102 (wantB false t109) (evLoad prog M102 2 t115) (fun t116 M103 => (stepK C M103 (wantB false t109) (evBin prog M103 .gtr 2 t111 t116) (fun t117 M104 => (stepK C M104 (some true) (evPick M104 t109 (.bool true) t117) (fun t118 M105 => (stepK C M105 (some true) (.val t118 M105) (fun t119 M106 => (stepK C M106 (wantB false t119) (evFieldAddr prog M106 210 t11 2) (fun t120 M107 => (stepK C M107 (wantB false t119) (evLoad prog M107 2 t120) (fun t121 M108 => (stepK C M108 (wantB false t119) (.val (e 7) M108) (fun t122 M109 => (stepK C M109 (wantB false t119) (evFieldAddr prog M109 210 t11 1) (fun t123 M110 => (stepK C M110 (wantB false t119) (evLoad prog M110 3 t123) (fun t124 M111 => (stepK C M111 (wantB false t119) (evIndexAddr prog M111 56 t122 t124) (fun t125 M112 => (stepK C M112 (wantB false t119) (evLoad prog M112 2 t125) (fun t126 M113 => (stepK C M113 (wantB false t119) (evBin prog M113 .gtr 2 t121 t126) (fun t127 M114 => (stepK C M114 (some true) (evPick M114 t119 (.bool true) t127) (fun t128 M115 => (condK t128 (stepK C M115 (some true) (.val (.bool false) M115) (fun t6 M116 => (some (t6, M116)))) (J85_11 C (fput (fput (fput (fput (fput (fput (fput (fput (fput (fput (fput (fput (fput (fput (fput (fput (fput (fput (fput (fput (fput (fput (fput (fput (fput (fput (fput (fput (fput (fput (fput (fput (fput (fput (fput (fput (fput (fput (fput (fput (fput (fput (fput (fput (fput (fput (fput (fput (fput (fput (fput (fput (fput (fput (fput (fput (fput (fput (fput e (some 71) t71) (some 72) t72) (some 73) t73) (some 74) t74) (some 11) t11) (some 75) t75) (some 76) t76) (some 77) t77) (some 78) t78) (some 79) t79) (some 80) t80) (some 81) t81) (some 82) t82) (some 83) t83) (some 84) t84) (some 85) t85) (some 86) t86) (some 87) t87) (some 88) t88) (some 89) t89) (some 90) t90) (some 91) t91) (some 92) t92) (some 93) t93) (some 94) t94) (some 95) t95) (some 96) t96) (some 97) t97) (some 98) t98) (some 99) t99) (some 100) t100) (some 101) t101) (some 102) t102) (some 103) t103) (some 104) t104) (some 105) t105) (some 106) t106) (some 107) t107) (some 108) t108) (some 109) t109) (some 110) t110) (some 111) t111) (some 112) t112) (some 113) t113) (some 114) t114) (some 115) t115) (some 116) t116) (some 117) t117) (some 118) t118) (some 119) t119) (some 120) t120) (some 121) t121) (some 122) t122) (some 123) t123) (some 124) t124) (some 125) t125) (some 126) t126) (some 127) t127) (some 128) t128) M115)))))))))))))))))))))))))))))))))))))))))))))))))))))))))))))))))))))))))))))))))))))))))))))))))))))))))))))))))))))))))) := by kernel_rfl
theorem J85_8_eq (C : Caller) (e : FEnv) (M : Mem) : J85_8 C e M = (stepK C M (some true) (.val (e 8) M) (fun t36 M117 => (stepK C M117 (some true) (evBin prog M117 .add 3 t36 (.int .i64 1)) (fun t37 M118 => (stepK C M118 (some true) (.val t37 M118) (fun t8 M119 => (W85_3 C (fput (fput (fput e (some 36) t36) (some 37) t37) (some 8) t8) M119))))))) := by kernel_rfl
theorem J85_9_eq (C : Caller) (e : FEnv) (M : Mem) : J85_9 C e M = (stepK C M (some true) (.val (e 7) M) (fun t57 M120 => (stepK C M120 (some true) (.val (e 8) M120) (fun t58 M121 => (stepK C M121 (some true) (evFieldAddr prog M121 41 (e 9) 0) (fun t59 M122 => (stepK C M122 (some true) (evLoad prog M122 2 t59) (fun t60 M123 => (stepK C M123 (some true) (evFieldAddr prog M123 41 (e 9) 1) (fun t61 M124 => (stepK C M124 (some true) (evLoad prog M124 2 t61) (fun t62 M125 => (stepK C M125 (some true) (evBin prog M125 .sub 2 t60 t62) (fun t63 M126 => (stepK C M126 (some true) (evIndexAddr prog M126 56 t57 t58) (fun t64 M127 => (stepK C M127 (some true) (evStore prog M127 2 t64 t63) (fun _ M128 => (J85_8 C (fput (fput (fput (fput (fput (fput (fput (fput e (some 57) t57) (some 58) t58) (some 59) t59) (some 60) t60) (some 61) t61) (some 62) t62) (some 63) t63) (some 64) t64) M128))))))))))))))))))) := by kernel_rfl
theorem J85_10_eq (C : Caller) (e : FEnv) (M : Mem) : J85_10 C e M = (stepK C M (some true) (.val (e 10) M) (fun t69 M129 => (stepK C M129 (some true) (evBin prog M129 .add 3 t69 (.int .i64 1)) (fun t70 M130 => (stepK C M130 (some true) (.val t70 M130) (fun t10 M131 => (W85_5 C (fput (fput (fput e (some 69) t69) (some 70) t70) (some 10) t10) M131))))))) := by kernel_rfl
theorem J85_11_eq (C : Caller) (e : FEnv) (M : Mem) : J85_11 C e M = (stepK C M (some true) (.val (e 7) M) (fun t129 M132 => (stepK C M132 (some true) (evFieldAddr prog M132 210 (e 11) 0) (fun t130 M133 => (stepK C M133 (some true) (evLoad prog M133 3 t130) (fun t131 M134 => (stepK C M134 (some true) (.val (e 7) M134) (fun t132 M135 => (stepK C M135 (some true) (evFieldAddr prog M135 210 (e 11) 0) (fun t133 M136 => (stepK C M136 (some true) (evLoad prog M136 3 t133) (fun t134 M137 => (stepK C M137 (some true) (evIndexAddr prog M137 56 t132 t134) (fun t135 M138 => (stepK C M138 (some true) (evLoad prog M138 2 t135) (fun t136 M139 => (stepK C M139 (some true) (evFieldAddr prog M139 210 (e 11) 2) (fun t137 M140 => (stepK C M140 (some true) (evLoad prog M140 2 t137) (fun t138 M141 => (stepK C M141 (some true) (evBin prog M141 .sub 2 t136 t138) (fun t139 M142 => (stepK C M142 (some true) (evIndexAddr prog M142 56 t129 t131) (fun t140 M143 => (stepK C M143 (some true) (evStore prog M143 2 t140 t139) (fun _ M144 => (onStillK true (stepK C M144 (some true) (.val (e 7) M144) (fun t141 M145 => (stepK C M145 (some true) (evFieldAddr prog M145 210 (e 11) 1) (fun t142 M146 => (stepK C M146 (some true) (evLoad prog M146 3 t142) (fun t143 M147 => (stepK C M147 (some true) (.val (e 7) M147) (fun t144 M148 => (stepK C M148 (some true) (evFieldAddr prog M148 210 (e 11) 1) (fun t145 M149 => (stepK C M149 (some true) (evLoad prog M149 3 t145) (fun t146 M150 => (stepK C M150 (some true) (evIndexAddr prog M150 56 t144 t146) (fun t147 M151 => (stepK C M151 (some true) (evLoad prog M151 2 t147) (fun t148 M152 => (stepK C M152 (some true) (evFieldAddr prog M152 210 (e 11) 2) (fun t149 M153 => (stepK C M153 (some true) (evLoad prog M153 2 t149) (fun t150 M154 => (stepK C M154 (some true) (evBin prog M154 .sub 2 t148 t150) (fun t151 M155 => (stepK C M155 (some true) (evIndexAddr prog M155 56 t141 t143) (fun t152 M156 => (stepK C M156 (some true) (evStore prog M156 2 t152 t151) (fun _ M157 => (onStillK true (stepK C M157 (some true) (.val (.int .i64 0) M157) (fun t12 M158 => (W85_12 C (fput (fput (fput (fput (fput (fput (fput (fput (fput (fput (fput (fput (fput (fput (fput (fput (fput (fput (fput (fput (fput (fput (fput (fput (fput e (some 129) t129) (some 130) t130) (some 131) t131) (some 132) t132) (some 133) t133) (some 134) t134) (some 135) t135) (some 136) t136) (some 137) t137) (some 138) t138) (some 139) t139) (some 140) t140) (some 141) t141) (some 142) t142) (some 143) t143) (some 144) t144) (some 145) t145) (some 146) t146) (some 147) t147) (some 148) t148) (some 149) t149) (some 150) t150) (some 151) t151) (some 152) t152) (some 12) t12) M158))))))))))))))))))))))))))))))))))))))))))))))))))))))))) := by kernel_rfl
theorem W85_12_eq (C : Caller) (e : FEnv) (M : Mem) : W85_12 C e M = (stepK C M (some true) (.val (e 12) M) (fun t153 M159 => (stepK C M159 (some true) (.val (e 10) M159) (fun t154 M160 => (stepK C M160 (some true) (evBin prog M160 .lss 3 t153 t154) (fun t155 M161 => (condK t155 (J85_13 C (fput (fput (fput e (some 153) t153) (some 154) t154) (some 155) t155) M161) (J85_10 C (fput (fput (fput e (some 153) t153) (some 154) t154) (some 155) t155) M161)))))))) :=
  Eq.trans (b := codeK prog C (.loop c85_72) (J85_10 C) (blockX 4 (J85_10 C) (blockX 3 (J85_10 C) (blockX 2 (J85_4 C) noneX))) (retK prog f85.results) e M) (by kernel_rfl) ((congrFun (congrFun (loopK_fix C c85_72 (J85_10 C) (blockX 4 (J85_10 C) (blockX 3 (J85_10 C) (blockX 2 (J85_4 C) noneX))) (retK prog f85.results)) e) M).trans (by kernel_rfl))
theorem J85_13_eq (C : Caller) (e : FEnv) (M : Mem) : J85_13 C e M = (stepK C M (some true) (.val (e 1) M) (fun t158 M162 => (stepK C M162 (some true) (.val (e 12) M162) (fun t159 M163 => (stepK C M163 (some true) (evIndexAddr prog M163 23 t158 t159) (fun t160 M164 => (stepK C M164 (some true) (evFieldAddr prog M164 210 t160 0) (fun t161 M165 => (stepK C M165 (some true) (evLoad prog M165 3 t161) (fun t162 M166 => (stepK C M166 (some true) (evFieldAddr prog M166 210 (e 11) 0) (fun t163 M167 => (stepK C M167 (some true) (evLoad prog M167 3 t163) (fun t164 M168 => (stepK C M168 (some true) (evBin prog M168 .eql 3 t162 t164) (fun t165 M169 => (stepK C M169 (some true) (.val t165 M169) (fun t166 M170 => (stepK C M170 (wantB true t166) (.val (e 1) M170) (fun t167 M171 => (stepK C M171 (wantB true t166) (.val (e 12) M171) (fun t168 M172 => (stepK C M172 (wantB true t166) (evIndexAddr prog M172 23 t167 t168) (fun t169 M173 => (stepK C M173 (wantB true t166) (evFieldAddr prog M173 210 t169 1) (fun t170 M174 => (stepK C M174 (wantB true t166) (evLoad prog M174 3 t170) (fun t171 M175 => (stepK C M175 (wantB true t166) (evFieldAddr prog M175 210 (e 11) 1) (fun t172 M176 => (stepK C M176 (wantB true t166) (evLoad prog M176 3 t172) (fun t173 M177 => (stepK C M177 (wantB true t166) (evBin prog M177 .eql 3 t171 t173) (fun t174 M178 => (stepK C M178 (some true) (evPick M178 t166 t174 (.bool false)) (fun t175 M179 => (stepK C M179 (some true) (.val t175 M179) (fun t176 M180 => (stepK C M180 (wantB false t176) (.val (e 1) M180) (fun t177 M181 => (stepK C M181 (wantB false t176) (.val (e 12) M181) (fun t178 M182 => (stepK C M182 (wantB false t176) (evIndexAddr prog M182 23 t177 t178) (fun t179 M183 => (stepK C M183 (wantB false t176) (evFieldAddr prog M183 210 t179 0) (fun t180 M184 => (stepK C M184 (wantB false t176) (evLoad prog M184 3 t180) (fun t181 M185 => (stepK C M185 (wantB false t176) (evFieldAddr prog M185 210 (e 11) 1) (fun t182 M186 => (stepK C M186 (wantB false t176) (evLoad prog M186 3 t182) (fun t183 M187 => (stepK C M187 (wantB false t176) (evBin prog M187 .eql 3 t181 t183) (fun t184 M188 => (stepK C M188 (wantB false t176) (.val t184 M188) (fun t185 M189 => (stepK C M189 (wantB true t185) (.val (e 1) M189) (fun t186 M190 => (stepK C M190 (wantB true t185) (.val (e 12) M190) (fun t187 M191 => (stepK C M191 (wantB true t185) (evIndexAddr prog M191 23 t186 t187) (fun t188 M192 => (stepK C M192 (wantB true t185) (evFieldAddr prog M192 210 t188 1) (fun t189 M193 => (stepK C M193 (wantB true t185) (evLoad prog M193 3 t189) (fun t190 M194 => (stepK C M194 (wantB true t185) (evFieldAddr prog M194 210 (e 11) 0) (fun t191 M195 => (stepK C M195 (wantB true t185) (evLoad prog M195 3 t191) (fun t192 M196 => (stepK C M196 (wantB true t185) (evBin prog M196 .eql 3 t190 t192) (fun t193 M197 => (stepK C M197 (wantB false t176) (evPick M197 t185 t193 (.bool false)) (fun t194 M198 => (stepK C M198 (some true) (evPick M198 t176 (.bool true) t194) (fun t195 M199 => (condK t195 (stepK C M199 (some true) (.val (.bool false) M199) (fun t6 M200 => (some (t6, M200)))) (J85_14 C (fput (fput (fput (fput (fput (fput (fput (fput (fput (fput (fput (fput (fput (fput (fput (fput (fput (fput (fput (fput (fput (fput (fput (fput (fput (fput (fput (fput (fput (fput (fput (fput (fput (fput (fput (fput (fput (fput e (some 158) t158) (some 159) t159) (some 160) t160) (some 161) t161) (some 162) t162) (some 163) t163) (some 164) t164) (some 165) t165) (some 166) t166) (some 167) t167) (some 168) t168) (some 169) t169) (some 170) t170) (some 171) t171) (some 172) t172) (some 173) t173) (some 174) t174) (some 175) t175) (some 176) t176) (some 177) t177) (some 178) t178) (some 179) t179) (some 180) t180) (some 181) t181) (some 182) t182) (some 183) t183) (some 184) t184) (some 185) t185) (some 186) t186) (some 187) t187) (some 188) t188) (some 189) t189) (some 190) t190) (some 191) t191) (some 192) t192) (some 193) t193) (some 194) t194) (some 195) t195) M199)))))))))))))))))))))))))))))))))))))))))))))))))))))))))))))))))))))))))))))) := by kernel_rfl
theorem J85_14_eq (C : Caller) (e : FEnv) (M : Mem) : J85_14 C e M = (stepK C M (some true) (.val (e 12) M) (fun t156 M201 => (stepK C M201 (some true) (evBin prog M201 .add 3 t156 (.int .i64 1)) (fun t157 M202 => (stepK C M202 (some true) (.val t157 M202) (fun t12 M203 => (W85_12 C (fput (fput (fput e (some 156) t156) (some 157) t157) (some 12) t12) M203))))))) := by kernel_rfl
theorem run85 {L : Lib} (hL : L 85 = none) (args : List AVal) (M : Mem) : callW prog L 85 args M = J85_0 (callW prog L) (argsF args) M :=
  callW_run hL (fn := f85) (by kernel_rfl) (b := c85) (by kernel_rfl) args M
/-! platformfw/perf.New -/
noncomputable def c93 : Code := bodyOf f93
noncomputable def J93_0 (C : Caller) : Kn := codeK prog C c93 (retK prog f93.results) noneX (retK prog f93.results)
noncomputable def c93_1 : Code := cr c93
noncomputable def c93_2 : Code := cl c93
noncomputable def c93_3 : Code := cr c93_1
noncomputable def c93_4 : Code := cl c93_1
noncomputable def c93_5 : Code := cr c93_4
noncomputable def c93_6 : Code := cl c93_4
noncomputable def c93_7 : Code := cr c93_5
noncomputable def c93_8 : Code := cl c93_5
noncomputable def J93_1 (C : Caller) : Kn := codeK prog C c93_3 (retK prog f93.results) noneX (retK prog f93.results)
noncomputable def c93_9 : Code := cl c93_7
noncomputable def c93_10 : Code := cr c93_9
noncomputable def c93_11 : Code := cl c93_9
noncomputable def c93_12 : Code := cr c93_7
noncomputable def c93_13 : Code := cr c93_3
noncomputable def c93_14 : Code := cl c93_3
noncomputable def c93_15 : Code := cr c93_14
noncomputable def c93_16 : Code := cl c93_14
noncomputable def J93_2 (C : Caller) : Kn := codeK prog C c93_13 (retK prog f93.results) noneX (retK prog f93.results)
noncomputable def c93_17 : Code := cl c93_15
noncomputable def c93_18 : Code := cr c93_17
noncomputable def c93_19 : Code := cl c93_17
noncomputable def c93_20 : Code := cr c93_15
noncomputable def c93_21 : Code := cr c93_13
noncomputable def c93_22 : Code := cl c93_13
theorem J93_0_eq (C : Caller) (e : FEnv) (M : Mem) : J93_0 C e M = (stepK C M (some true) (evNew M (e 1)) (fun t3 M1 => (stepK C M1 (some true) (.val .nilPtr M1) (fun t4 M2 => (stepK C M2 (some true) (.val (.int .i64 0) M2) (fun t5 M3 => (stepK C M3 (some true) (.val (e 0) M3) (fun t7 M4 => (stepK C M4 (some true) (.call 135 [t7]) (fun t8 M5 => (stepK C M5 (some true) (.val t8 M5) (fun t6 M6 => (stepK C M6 (some true) (.val t6 M6) (fun t9 M7 => (stepK C M7 (some true) (evBin prog M7 .neq 28 t9 (.int .i64 0)) (fun t10 M8 => (condK t10 (stepK C M8 (some true) (.val t6 M8) (fun t11 M9 => (stepK C M9 (some true) (.val .nilPtr M9) (fun t4 M10 => (stepK C M10 (some true) (.val t11 M10) (fun t5 M11 => (some (.tuple [t4, t5], M11)))))))) (J93_1 C (fput (fput (fput (fput (fput (fput (fput (fput e (some 3) t3) (some 4) t4) (some 5) t5) (some 7) t7) (some 8) t8) (some 6) t6) (some 9) t9) (some 10) t10) M8)))))))))))))))))) := by kernel_rfl
theorem J93_1_eq (C : Caller) (e : FEnv) (M : Mem) : J93_1 C e M = (stepK C M (some true) (evFieldAddr prog M 39 (e 3) 0) (fun t12 M12 => (stepK C M12 (some true) (evLoad prog M12 3 t12) (fun t13 M13 => (stepK C M13 (some true) (evBin prog M13 .lss 3 t13 (.int .i64 1)) (fun t14 M14 => (stepK C M14 (some true) (.val t14 M14) (fun t15 M15 => (stepK C M15 (wantB false t15) (evFieldAddr prog M15 39 (e 3) 0) (fun t16 M16 => (stepK C M16 (wantB false t15) (evLoad prog M16 3 t16) (fun t17 M17 => (stepK C M17 (wantB false t15) (evBin prog M17 .gtr 3 t17 (.int .i64 100)) (fun t18 M18 => (stepK C M18 (some true) (evPick M18 t15 (.bool true) t18) (fun t19 M19 => (stepK C M19 (some true) (.val t19 M19) (fun t20 M20 => (stepK C M20 (wantB false t20) (evFieldAddr prog M20 39 (e 3) 1) (fun t21 M21 => (stepK C M21 (wantB false t20) (evLoad prog M21 3 t21) (fun t22 M22 => (stepK C M22 (wantB false t20) (evBin prog M22 .lss 3 t22 (.int .i64 0)) (fun t23 M23 => (stepK C M23 (some true) (evPick M23 t20 (.bool true) t23) (fun t24 M24 => (stepK C M24 (some true) (.val t24 M24) (fun t25 M25 => (stepK C M25 (wantB false t25) (evFieldAddr prog M25 39 (e 3) 1) (fun t26 M26 => (stepK C M26 (wantB false t25) (evLoad prog M26 3 t26) (fun t27 M27 => (stepK C M27 (wantB false t25) (evFieldAddr prog M27 39 (e 3) 0) (fun t28 M28 => (stepK C M28 (wantB false t25) (evLoad prog M28 3 t28) (fun t29 M29 => (stepK C M29 (wantB false t25) (evBin prog M29 .geq 3 t27 t29) (fun t30 M30 => (stepK C M30 (some true) (evPick M30 t25 (.bool true) t30) (fun t31 M31 => (stepK C M31 (some true) (.val t31 M31) (fun t32 M32 => (stepK C M32 (wantB false t32) (evFieldAddr prog M32 39 (e 3) 2) (fun t33 M33 => (stepK C M33 (wantB false t32) (evLoad prog M33 3 t33) (fun t34 M34 => (stepK C M34 (wantB false t32) (evBin prog M34 .lss 3 t34 (.int .i64 1)) (fun t35 M35 => (stepK C M35 (some true) (evPick M35 t32 (.bool true) t35) (fun t36 M36 => (stepK C M36 (some true) (.val t36 M36) (fun t37 M37 => (stepK C M37 (wantB false t37) (evFieldAddr prog M37 39 (e 3) 2) (fun t38 M38 => (stepK C M38 (wantB false t37) (evLoad prog M38 3 t38) (fun t39 M39 => (stepK C M39 (wantB false t37) (evBin prog M39 .gtr 3 t39 (.int .i64 1000)) (fun t40 M40 => (stepK C M40 (some true) (evPick M40 t37 (.bool true) t40) (fun t41 M41 => (condK t41 (stepK C M41 (some true) (.val .nilPtr M41) (fun t4 M42 => (stepK C M42 (some true) (.val (.int .i64 1) M42) (fun t5 M43 => (some (.tuple [t4, t5], M43)))))) (J93_2 C (fput (fput (fput (fput (fput (fput (fput (fput (fput (fput (fput (fput (fput (fput (fput (fput (fput (fput (fput (fput (fput (fput (fput (fput (fput (fput (fput (fput (fput (fput e (some 12) t12) (some 13) t13) (some 14) t14) (some 15) t15) (some 16) t16) (some 17) t17) (some 18) t18) (some 19) t19) (some 20) t20) (some 21) t21) (some 22) t22) (some 23) t23) (some 24) t24) (some 25) t25) (some 26) t26) (some 27) t27) (some 28) t28) (some 29) t29) (some 30) t30) (some 31) t31) (some 32) t32) (some 33) t33) (some 34) t34) (some 35) t35) (some 36) t36) (some 37) t37) (some 38) t38) (some 39) t39) (some 40) t40) (some 41) t41) M41)))))))))))))))))))))))))))))))))))))))))))))))))))))))))))))) := by kernel_rfl
theorem J93_2_eq (C : Caller) (e : FEnv) (M : Mem) : J93_2 C e M = (stepK C M (some true) (.val (e 0) M) (fun t42 M44 => (stepK C M44 (some true) (evLoad prog M44 39 (e 3)) (fun t44 M45 => (stepK C M45 (some true) (.val (e 0) M45) (fun t45 M46 => (stepK C M46 (some true) (Go.VE.builtin prog M46 .len #[42] [t45]) (fun t46 M47 => (stepK C M47 (some true) (evBin prog M47 .sub 3 t46 (.int .i64 1)) (fun t47 M48 => (stepK C M48 (some true) (.call 78 [t42]) (fun t43 M49 => (onStillK ((sameVal t46 (Go.VE.builtin prog M49 .len #[42] [t45])) && ((sameVal t44 (evLoad prog M49 39 (e 3))) && true)) (stepK C M49 (some true) (evBuildR prog M49 238 [(0, t43), (1, t44), (3, t47)]) (fun t48 M50 => (stepK C M50 (some true) (evNew M50 t48) (fun t49 M51 => (stepK C M51 (some true) (.val t49 M51) (fun t4 M52 => (stepK C M52 (some true) (.val (.int .i64 0) M52) (fun t5 M53 => (some (.tuple [t4, t5], M53))))))))))))))))))))))) := by kernel_rfl
theorem run93 {L : Lib} (hL : L 93 = none) (args : List AVal) (M : Mem) : callW prog L 93 args M = J93_0 (callW prog L) (argsF args) M :=
  callW_run hL (fn := f93) (by kernel_rfl) (b := c93) (by kernel_rfl) args M
/-! platformfw/thermal.NewZone -/
noncomputable def c94 : Code := bodyOf f94
noncomputable def J94_0 (C : Caller) : Kn := codeK prog C c94 (retK prog f94.results) noneX (retK prog f94.results)
noncomputable def c94_1 : Code := cr c94
noncomputable def c94_2 : Code := cl c94
noncomputable def c94_3 : Code := cr c94_1
noncomputable def c94_4 : Code := cl c94_1
noncomputable def c94_5 : Code := cr c94_4
noncomputable def c94_6 : Code := cl c94_4
noncomputable def J94_1 (C : Caller) : Kn := codeK prog C c94_3 (retK prog f94.results) noneX (retK prog f94.results)
noncomputable def c94_7 : Code := cl c94_5
noncomputable def c94_8 : Code := cr c94_7
noncomputable def c94_9 : Code := cl c94_7
noncomputable def c94_10 : Code := cr c94_5
noncomputable def c94_11 : Code := cr c94_3
noncomputable def c94_12 : Code := cl c94_3
theorem J94_0_eq (C : Caller) (e : FEnv) (M : Mem) : J94_0 C e M = (stepK C M (some true) (.val .nilPtr M) (fun t4 M1 => (stepK C M1 (some true) (.val (.int .i64 0) M1) (fun t5 M2 => (stepK C M2 (some true) (.val (e 0) M2) (fun t6 M3 => (stepK C M3 (some true) (.call 136 [t6]) (fun t7 M4 => (stepK C M4 (some true) (evBin prog M4 .neq 28 t7 (.int .i64 0)) (fun t8 M5 => (stepK C M5 (some true) (.val t8 M5) (fun t9 M6 => (stepK C M6 (wantB false t9) (.val (e 1) M6) (fun t10 M7 => (stepK C M7 (wantB false t9) (evBin prog M7 .lss 3 t10 (.int .i64 0)) (fun t11 M8 => (stepK C M8 (some true) (evPick M8 t9 (.bool true) t11) (fun t12 M9 => (stepK C M9 (some true) (.val t12 M9) (fun t13 M10 => (stepK C M10 (wantB false t13) (.val (e 1) M10) (fun t14 M11 => (stepK C M11 (wantB false t13) (evBin prog M11 .gtr 3 t14 (.int .i64 64)) (fun t15 M12 => (stepK C M12 (some true) (evPick M12 t13 (.bool true) t15) (fun t16 M13 => (condK t16 (stepK C M13 (some true) (.val .nilPtr M13) (fun t4 M14 => (stepK C M14 (some true) (.val (.int .i64 1) M14) (fun t5 M15 => (some (.tuple [t4, t5], M15)))))) (J94_1 C (fput (fput (fput (fput (fput (fput (fput (fput (fput (fput (fput (fput (fput e (some 4) t4) (some 5) t5) (some 6) t6) (some 7) t7) (some 8) t8) (some 9) t9) (some 10) t10) (some 11) t11) (some 12) t12) (some 13) t13) (some 14) t14) (some 15) t15) (some 16) t16) M13)))))))))))))))))))))))))))) := by kernel_rfl
theorem J94_1_eq (C : Caller) (e : FEnv) (M : Mem) : J94_1 C e M = (stepK C M (some true) (.val (e 0) M) (fun t17 M16 => (stepK C M16 (some true) (.val (e 0) M16) (fun t19 M17 => (stepK C M17 (some true) (Go.VE.builtin prog M17 .len #[43] [t19]) (fun t20 M18 => (stepK C M18 (some true) (evMakeSlice prog M18 217 t20 t20) (fun t21 M19 => (stepK C M19 (some true) (.val (e 1) M19) (fun t22 M20 => (stepK C M20 (some true) (.call 79 [t17]) (fun t18 M21 => (onStillK ((sameVal t20 (Go.VE.builtin prog M21 .len #[43] [t19])) && true) (stepK C M21 (some true) (evBuildR prog M21 232 [(0, t18), (1, t21), (2, t22)]) (fun t23 M22 => (stepK C M22 (some true) (evNew M22 t23) (fun t24 M23 => (stepK C M23 (some true) (.val t24 M23) (fun t4 M24 => (stepK C M24 (some true) (.val (.int .i64 0) M24) (fun t5 M25 => (some (.tuple [t4, t5], M25))))))))))))))))))))))) := by kernel_rfl
theorem run94 {L : Lib} (hL : L 94 = none) (args : List AVal) (M : Mem) : callW prog L 94 args M = J94_0 (callW prog L) (argsF args) M :=
  callW_run hL (fn := f94) (by kernel_rfl) (b := c94) (by kernel_rfl) args M
/-! platformfw/heat.inRange -/
noncomputable def c122 : Code := bodyOf f122
noncomputable def J122_0 (C : Caller) : Kn := codeK prog C c122 (retK prog f122.results) noneX (retK prog f122.results)
noncomputable def c122_1 : Code := cr c122
noncomputable def c122_2 : Code := cl c122
noncomputable def c122_3 : Code := cr c122_1
noncomputable def c122_4 : Code := cl c122_1
theorem J122_0_eq (C : Caller) (e : FEnv) (M : Mem) : J122_0 C e M = (stepK C M (some true) (.val (.bool false) M) (fun t4 M1 => (stepK C M1 (some true) (.val (e 0) M1) (fun t5 M2 => (stepK C M2 (some true) (.val (e 1) M2) (fun t6 M3 => (stepK C M3 (some true) (evBin prog M3 .geq 2 t5 t6) (fun t7 M4 => (stepK C M4 (some true) (.val t7 M4) (fun t8 M5 => (stepK C M5 (wantB true t8) (.val (e 0) M5) (fun t9 M6 => (stepK C M6 (wantB true t8) (evBin prog M6 .leq 2 t9 (.int .i64 16777216)) (fun t10 M7 => (stepK C M7 (some true) (evPick M7 t8 t10 (.bool false)) (fun t11 M8 => (stepK C M8 (some true) (.val t11 M8) (fun t4 M9 => (some (t4, M9)))))))))))))))))))) := by kernel_rfl
theorem run122 {L : Lib} (hL : L 122 = none) (args : List AVal) (M : Mem) : callW prog L 122 args M = J122_0 (callW prog L) (argsF args) M :=
  callW_run hL (fn := f122) (by kernel_rfl) (b := c122) (by kernel_rfl) args M
/-! platformfw/heat.validLinks -/
noncomputable def c123 : Code := bodyOf f123
noncomputable def J123_0 (C : Caller) : Kn := codeK prog C c123 (retK prog f123.results) noneX (retK prog f123.results)
noncomputable def c123_1 : Code := cr c123
noncomputable def c123_2 : Code := cl c123
noncomputable def c123_3 : Code := cr c123_1
noncomputable def c123_4 : Code := cl c123_1
noncomputable def c123_5 : Code := cr c123_4
noncomputable def c123_6 : Code := cl c123_4
noncomputable def J123_1 (C : Caller) : Kn := codeK prog C c123_3 (retK prog f123.results) noneX (retK prog f123.results)
noncomputable def c123_7 : Code := cl c123_5
noncomputable def W123_2 (C : Caller) : Kn := codeK prog C c123_7 (J123_1 C) (blockX 0 (J123_1 C) noneX) (retK prog f123.results)
noncomputable def c123_8 : Code := cr c123_3
noncomputable def c123_9 : Code := cl c123_3
noncomputable def c123_10 : Code := cl c123_7
noncomputable def c123_11 : Code := cr c123_10
noncomputable def c123_12 : Code := cl c123_10
noncomputable def c123_13 : Code := cr c123_11
noncomputable def c123_14 : Code := cl c123_11
noncomputable def J123_3 (C : Caller) : Kn := codeK prog C c123_13 (W123_2 C) (blockX 0 (J123_1 C) noneX) (retK prog f123.results)
noncomputable def c123_15 : Code := cl c123_14
noncomputable def c123_16 : Code := cr c123_14
noncomputable def c123_17 : Code := cr c123_13
noncomputable def c123_18 : Code := cl c123_13
noncomputable def J123_4 (C : Caller) : Kn := codeK prog C c123_17 (W123_2 C) (blockX 0 (J123_1 C) noneX) (retK prog f123.results)
noncomputable def c123_19 : Code := cl c123_18
noncomputable def c123_20 : Code := cr c123_19
noncomputable def c123_21 : Code := cl c123_19
noncomputable def c123_22 : Code := cr c123_20
noncomputable def c123_23 : Code := cl c123_20
noncomputable def c123_24 : Code := cr c123_23
noncomputable def c123_25 : Code := cl c123_23
noncomputable def J123_5 (C : Caller) : Kn := codeK prog C c123_22 (J123_4 C) (blockX 1 (J123_4 C) (blockX 0 (J123_1 C) noneX)) (retK prog f123.results)
noncomputable def c123_26 : Code := cl c123_24
noncomputable def c123_27 : Code := cr c123_26
noncomputable def c123_28 : Code := cl c123_26
noncomputable def c123_29 : Code := cr c123_24
noncomputable def c123_30 : Code := cr c123_22
noncomputable def c123_31 : Code := cl c123_22
noncomputable def c123_32 : Code := cl c123_30
noncomputable def c123_33 : Code := cr c123_32
noncomputable def c123_34 : Code := cl c123_32
noncomputable def c123_35 : Code := cr c123_30
theorem J123_0_eq (C : Caller) (e : FEnv) (M : Mem) : J123_0 C e M = (stepK C M (some true) (.val (.bool false) M) (fun t4 M1 => (stepK C M1 (some true) (.val (e 1) M1) (fun t7 M2 => (stepK C M2 (some true) (Go.VE.builtin prog M2 .len #[23] [t7]) (fun t8 M3 => (stepK C M3 (some true) (.val (.int .i64 0) M3) (fun t9 M4 => (W123_2 C (fput (fput (fput (fput e (some 4) t4) (some 7) t7) (some 8) t8) (some 9) t9) M4))))))))) := by kernel_rfl
theorem J123_1_eq (C : Caller) (e : FEnv) (M : Mem) : J123_1 C e M = (stepK C M (some true) (.val (.bool true) M) (fun t4 M5 => (some (t4, M5)))) := by kernel_rfl
theorem W123_2_eq (C : Caller) (e : FEnv) (M : Mem) : W123_2 C e M = (stepK C M (some true) (evBin prog M .lss 3 (e 9) (e 8)) (fun t10 M6 => (condK t10 (J123_3 C (fput e (some 10) t10) M6) (J123_1 C (fput e (some 10) t10) M6)))) :=
  Eq.trans (b := codeK prog C (.loop c123_10) (J123_1 C) (blockX 0 (J123_1 C) noneX) (retK prog f123.results) e M) (by kernel_rfl) ((congrFun (congrFun (loopK_fix C c123_10 (J123_1 C) (blockX 0 (J123_1 C) noneX) (retK prog f123.results)) e) M).trans (by kernel_rfl))
theorem J123_3_eq (C : Caller) (e : FEnv) (M : Mem) : J123_3 C e M = (stepK C M (some true) (.val (e 9) M) (fun t11 M7 => (stepK C M7 (some true) (evIndexAddr prog M7 23 (e 7) (e 9)) (fun t12 M8 => (stepK C M8 (some true) (evLoad prog M8 210 t12) (fun t13 M9 => (stepK C M9 (some true) (evNew M9 (zero prog 210)) (fun t6 M10 => (stepK C M10 (some true) (.val t11 M10) (fun t5 M11 => (stepK C M11 (some true) (evStore prog M11 210 t6 t13) (fun _ M12 => (stepK C M12 (some true) (evFieldAddr prog M12 210 t6 0) (fun t14 M13 => (stepK C M13 (some true) (evLoad prog M13 3 t14) (fun t15 M14 => (stepK C M14 (some true) (evBin prog M14 .lss 3 t15 (.int .i64 0)) (fun t16 M15 => (stepK C M15 (some true) (.val t16 M15) (fun t17 M16 => (stepK C M16 (wantB false t17) (evFieldAddr prog M16 210 t6 0) (fun t18 M17 => (stepK C M17 (wantB false t17) (evLoad prog M17 3 t18) (fun t19 M18 => (stepK C M18 (wantB false t17) (.val (e 0) M18) (fun t20 M19 => (stepK C M19 (wantB false t17) (evBin prog M19 .geq 3 t19 t20) (fun t21 M20 => (stepK C M20 (some true) (evPick M20 t17 (.bool true) t21) (fun t22 M21 => (stepK C M21 (some true) (.val t22 M21) (fun t23 M22 => (stepK C M22 (wantB false t23) (evFieldAddr prog M22 210 t6 1) (fun t24 M23 => (stepK C M23 (wantB false t23) (evLoad prog M23 3 t24) (fun t25 M24 => (stepK C M24 (wantB false t23) (evBin prog M24 .lss 3 t25 (.int .i64 0)) (fun t26 M25 => (stepK C M25 (some true) (evPick M25 t23 (.bool true) t26) (fun t27 M26 => (stepK C M26 (some true) (.val t27 M26) (fun t28 M27 => (stepK C M27 (wantB false t28) (evFieldAddr prog M27 210 t6 1) (fun t29 M28 => (stepK C M28 (wantB false t28) (evLoad prog M28 3 t29) (fun t30 M29 => (stepK C M29 (wantB false t28) (.val (e 0) M29) (fun t31 M30 => (stepK C M30 (wantB false t28) (evBin prog M30 .geq 3 t30 t31) (fun t32 M31 => (stepK C M31 (some true) (evPick M31 t28 (.bool true) t32) (fun t33 M32 => (stepK C M32 (some true) (.val t33 M32) (fun t34 M33 => (stepK C M33 (wantB false t34) (evFieldAddr prog M33 210 t6 0) (fun t35 M34 => (stepK C M34 (wantB false t34) (evLoad prog M34 3 t35) (fun t36 M35 => (stepK C M35 (wantB false t34) (evFieldAddr prog M35 210 t6 1) (fun t37 M36 => (stepK C M36 (wantB false t34) (evLoad prog M36 3 t37) (fun t38 M37 => (stepK C M37 (wantB false t34) (evBin prog M37 .eql 3 t36 t38) (fun t39 M38 => (stepK C M38 (some true) (evPick M38 t34 (.bool true) t39) (fun t40 M39 => (stepK C M39 (some true) (.val t40 M39) (fun t41 M40 => (stepK C M40 (wantB false t41) (evFieldAddr prog M40 210 t6 2) (fun t42 M41 => (stepK C M41 (wantB false t41) (evLoad prog M41 2 t42) (fun t43 M42 => (stepK C M42 (wantB false t41) (.call 122 [t43, (.int .i64 1)]) (fun t44 M43 => (stepK C M43 (wantB false t41) (OpR.ofOpt M43 (unOp .not t44)) (fun t45 M44 => (stepK C M44 (some true) (evPick M44 t41 (.bool true) t45) (fun t46 M45 => (condK t46 (stepK C M45 (some true) (.val (.bool false) M45) (fun t4 M46 => (some (t4, M46)))) (J123_5 C (fput (fput (fput (fput (fput (fput (fput (fput (fput (fput (fput (fput (fput (fput (fput (fput (fput (fput (fput (fput (fput (fput (fput (fput (fput (fput (fput (fput (fput (fput (fput (fput (fput (fput (fput (fput (fput (fput e (some 11) t11) (some 12) t12) (some 13) t13) (some 6) t6) (some 5) t5) (some 14) t14) (some 15) t15) (some 16) t16) (some 17) t17) (some 18) t18) (some 19) t19) (some 20) t20) (some 21) t21) (some 22) t22) (some 23) t23) (some 24) t24) (some 25) t25) (some 26) t26) (some 27) t27) (some 28) t28) (some 29) t29) (some 30) t30) (some 31) t31) (some 32) t32) (some 33) t33) (some 34) t34) (some 35) t35) (some 36) t36) (some 37) t37) (some 38) t38) (some 39) t39) (some 40) t40) (some 41) t41) (some 42) t42) (some 43) t43) (some 44) t44) (some 45) t45) (some 46) t46) M45)))))))))))))))))))))))))))))))))))))))))))))))))))))))))))))))))))))))))))))))) := by kernel_rfl
theorem J123_4_eq (C : Caller) (e : FEnv) (M : Mem) : J123_4 C e M = (stepK C M (some true) (evBin prog M .add 3 (e 9) (.int .i64 1)) (fun t52 M47 => (stepK C M47 (some true) (.val t52 M47) (fun t9 M48 => (W123_2 C (fput (fput e (some 52) t52) (some 9) t9) M48))))) := by kernel_rfl
theorem J123_5_eq (C : Caller) (e : FEnv) (M : Mem) : J123_5 C e M = (stepK C M (some true) (.val (e 1) M) (fun t47 M49 => (stepK C M49 (some true) (.val (e 5) M49) (fun t48 M50 => (stepK C M50 (some true) (evSlice prog M50 23 t47 none (some t48) none) (fun t49 M51 => (stepK C M51 (some true) (.val (.func 166 [(e 6)]) M51) (fun t50 M52 => (stepK C M52 (some true) (.call 165 [t49, t50]) (fun t51 M53 => (condK t51 (stepK C M53 (some true) (.val (.bool false) M53) (fun t4 M54 => (some (t4, M54)))) (J123_4 C (fput (fput (fput (fput (fput e (some 47) t47) (some 48) t48) (some 49) t49) (some 50) t50) (some 51) t51) M53)))))))))))) := by kernel_rfl
theorem run123 {L : Lib} (hL : L 123 = none) (args : List AVal) (M : Mem) : callW prog L 123 args M = J123_0 (callW prog L) (argsF args) M :=
  callW_run hL (fn := f123) (by kernel_rfl) (b := c123) (by kernel_rfl) args M
/-! platformfw/perf.Check -/
noncomputable def c135 : Code := bodyOf f135
noncomputable def J135_0 (C : Caller) : Kn := codeK prog C c135 (retK prog f135.results) noneX (retK prog f135.results)
noncomputable def c135_1 : Code := cr c135
noncomputable def c135_2 : Code := cl c135
noncomputable def c135_3 : Code := cr c135_1
noncomputable def c135_4 : Code := cl c135_1
noncomputable def c135_5 : Code := cr c135_4
noncomputable def c135_6 : Code := cl c135_4
noncomputable def J135_1 (C : Caller) : Kn := codeK prog C c135_3 (retK prog f135.results) noneX (retK prog f135.results)
noncomputable def c135_7 : Code := cl c135_5
noncomputable def c135_8 : Code := cr c135_7
noncomputable def c135_9 : Code := cl c135_7
noncomputable def c135_10 : Code := cr c135_5
noncomputable def c135_11 : Code := cr c135_3
noncomputable def c135_12 : Code := cl c135_3
noncomputable def c135_13 : Code := cr c135_12
noncomputable def c135_14 : Code := cl c135_12
noncomputable def J135_2 (C : Caller) : Kn := codeK prog C c135_11 (retK prog f135.results) noneX (retK prog f135.results)
noncomputable def c135_15 : Code := cl c135_13
noncomputable def W135_3 (C : Caller) : Kn := codeK prog C c135_15 (J135_2 C) (blockX 0 (J135_2 C) noneX) (retK prog f135.results)
noncomputable def c135_16 : Code := cr c135_11
noncomputable def c135_17 : Code := cl c135_11
noncomputable def c135_18 : Code := cl c135_15
noncomputable def c135_19 : Code := cr c135_18
noncomputable def c135_20 : Code := cl c135_18
noncomputable def c135_21 : Code := cr c135_19
noncomputable def c135_22 : Code := cl c135_19
noncomputable def J135_4 (C : Caller) : Kn := codeK prog C c135_21 (W135_3 C) (blockX 0 (J135_2 C) noneX) (retK prog f135.results)
noncomputable def c135_23 : Code := cl c135_22
noncomputable def c135_24 : Code := cr c135_22
noncomputable def c135_25 : Code := cr c135_21
noncomputable def c135_26 : Code := cl c135_21
noncomputable def J135_5 (C : Caller) : Kn := codeK prog C c135_25 (W135_3 C) (blockX 0 (J135_2 C) noneX) (retK prog f135.results)
noncomputable def c135_27 : Code := cl c135_26
noncomputable def c135_28 : Code := cr c135_27
noncomputable def c135_29 : Code := cl c135_27
noncomputable def c135_30 : Code := cr c135_28
noncomputable def c135_31 : Code := cl c135_28
noncomputable def c135_32 : Code := cr c135_31
noncomputable def c135_33 : Code := cl c135_31
noncomputable def J135_6 (C : Caller) : Kn := codeK prog C c135_30 (J135_5 C) (blockX 1 (J135_5 C) (blockX 0 (J135_2 C) noneX)) (retK prog f135.results)
noncomputable def c135_34 : Code := cl c135_32
noncomputable def c135_35 : Code := cr c135_34
noncomputable def c135_36 : Code := cl c135_34
noncomputable def c135_37 : Code := cr c135_32
noncomputable def c135_38 : Code := cr c135_30
noncomputable def c135_39 : Code := cl c135_30
noncomputable def c135_40 : Code := cl c135_38
noncomputable def c135_41 : Code := cr c135_40
noncomputable def c135_42 : Code := cl c135_40
noncomputable def c135_43 : Code := cr c135_38
theorem J135_0_eq (C : Caller) (e : FEnv) (M : Mem) : J135_0 C e M = (stepK C M (some true) (.val (.int .i64 0) M) (fun t2 M1 => (stepK C M1 (some true) (.val (e 0) M1) (fun t5 M2 => (stepK C M2 (some true) (Go.VE.builtin prog M2 .len #[42] [t5]) (fun t6 M3 => (stepK C M3 (some true) (evBin prog M3 .lss 3 t6 (.int .i64 1)) (fun t7 M4 => (stepK C M4 (some true) (.val t7 M4) (fun t8 M5 => (stepK C M5 (wantB false t8) (.val (e 0) M5) (fun t9 M6 => (stepK C M6 (wantB false t8) (Go.VE.builtin prog M6 .len #[42] [t9]) (fun t10 M7 => (stepK C M7 (wantB false t8) (evBin prog M7 .gtr 3 t10 (.int .i64 16)) (fun t11 M8 => (stepK C M8 (some true) (evPick M8 t8 (.bool true) t11) (fun t12 M9 => (condK t12 (stepK C M9 (some true) (.val (.int .i64 1) M9) (fun t2 M10 => (some (t2, M10)))) (J135_1 C (fput (fput (fput (fput (fput (fput (fput (fput (fput e (some 2) t2) (some 5) t5) (some 6) t6) (some 7) t7) (some 8) t8) (some 9) t9) (some 10) t10) (some 11) t11) (some 12) t12) M9)))))))))))))))))))) := by kernel_rfl
theorem J135_1_eq (C : Caller) (e : FEnv) (M : Mem) : J135_1 C e M = (stepK C M (some true) (.val (e 0) M) (fun t13 M11 => (stepK C M11 (some true) (Go.VE.builtin prog M11 .len #[42] [t13]) (fun t14 M12 => (stepK C M12 (some true) (.val (.int .i64 0) M12) (fun t15 M13 => (W135_3 C (fput (fput (fput e (some 13) t13) (some 14) t14) (some 15) t15) M13))))))) := by kernel_rfl
theorem J135_2_eq (C : Caller) (e : FEnv) (M : Mem) : J135_2 C e M = (stepK C M (some true) (.val (.int .i64 0) M) (fun t2 M14 => (some (t2, M14)))) := by kernel_rfl
theorem W135_3_eq (C : Caller) (e : FEnv) (M : Mem) : W135_3 C e M = (stepK C M (some true) (evBin prog M .lss 3 (e 15) (e 14)) (fun t16 M15 => (condK t16 (J135_4 C (fput e (some 16) t16) M15) (J135_2 C (fput e (some 16) t16) M15)))) :=
  Eq.trans (b := codeK prog C (.loop c135_18) (J135_2 C) (blockX 0 (J135_2 C) noneX) (retK prog f135.results) e M) (by kernel_rfl) ((congrFun (congrFun (loopK_fix C c135_18 (J135_2 C) (blockX 0 (J135_2 C) noneX) (retK prog f135.results)) e) M).trans (by kernel_rfl))
theorem J135_4_eq (C : Caller) (e : FEnv) (M : Mem) : J135_4 C e M = (stepK C M (some true) (.val (e 15) M) (fun t17 M16 => (stepK C M16 (some true) (evIndexAddr prog M16 42 (e 13) (e 15)) (fun t18 M17 => (stepK C M17 (some true) (evLoad prog M17 61 t18) (fun t19 M18 => (stepK C M18 (some true) (evNew M18 (zero prog 61)) (fun t4 M19 => (stepK C M19 (some true) (.val t17 M19) (fun t3 M20 => (stepK C M20 (some true) (evStore prog M20 61 t4 t19) (fun _ M21 => (stepK C M21 (some true) (evFieldAddr prog M21 61 t4 0) (fun t20 M22 => (stepK C M22 (some true) (evLoad prog M22 24 t20) (fun t21 M23 => (stepK C M23 (some true) (evBin prog M23 .lss 24 t21 (.int .u64 1)) (fun t22 M24 => (stepK C M24 (some true) (.val t22 M24) (fun t23 M25 => (stepK C M25 (wantB false t23) (evFieldAddr prog M25 61 t4 0) (fun t24 M26 => (stepK C M26 (wantB false t23) (evLoad prog M26 24 t24) (fun t25 M27 => (stepK C M27 (wantB false t23) (evBin prog M27 .gtr 24 t25 (.int .u64 1099511627776)) (fun t26 M28 => (stepK C M28 (some true) (evPick M28 t23 (.bool true) t26) (fun t27 M29 => (stepK C M29 (some true) (.val t27 M29) (fun t28 M30 => (stepK C M30 (wantB false t28) (evFieldAddr prog M30 61 t4 1) (fun t29 M31 => (stepK C M31 (wantB false t28) (evLoad prog M31 24 t29) (fun t30 M32 => (stepK C M32 (wantB false t28) (evBin prog M32 .gtr 24 t30 (.int .u64 1099511627776)) (fun t31 M33 => (stepK C M33 (some true) (evPick M33 t28 (.bool true) t31) (fun t32 M34 => (stepK C M34 (some true) (.val t32 M34) (fun t33 M35 => (stepK C M35 (wantB false t33) (evFieldAddr prog M35 61 t4 2) (fun t34 M36 => (stepK C M36 (wantB false t33) (evLoad prog M36 24 t34) (fun t35 M37 => (stepK C M37 (wantB false t33) (evBin prog M37 .gtr 24 t35 (.int .u64 1099511627776)) (fun t36 M38 => (stepK C M38 (some true) (evPick M38 t33 (.bool true) t36) (fun t37 M39 => (condK t37 (stepK C M39 (some true) (.val (.int .i64 1) M39) (fun t2 M40 => (some (t2, M40)))) (J135_6 C (fput (fput (fput (fput (fput (fput (fput (fput (fput (fput (fput (fput (fput (fput (fput (fput (fput (fput (fput (fput (fput (fput (fput e (some 17) t17) (some 18) t18) (some 19) t19) (some 4) t4) (some 3) t3) (some 20) t20) (some 21) t21) (some 22) t22) (some 23) t23) (some 24) t24) (some 25) t25) (some 26) t26) (some 27) t27) (some 28) t28) (some 29) t29) (some 30) t30) (some 31) t31) (some 32) t32) (some 33) t33) (some 34) t34) (some 35) t35) (some 36) t36) (some 37) t37) M39)))))))))))))))))))))))))))))))))))))))))))))))))) := by kernel_rfl
theorem J135_5_eq (C : Caller) (e : FEnv) (M : Mem) : J135_5 C e M = (stepK C M (some true) (evBin prog M .add 3 (e 15) (.int .i64 1)) (fun t73 M41 => (stepK C M41 (some true) (.val t73 M41) (fun t15 M42 => (W135_3 C (fput (fput e (some 73) t73) (some 15) t15) M42))))) := by kernel_rfl
theorem J135_6_eq (C : Caller) (e : FEnv) (M : Mem) : J135_6 C e M = (stepK C M (some true) (.val (e 3) M) (fun t38 M43 => (stepK C M43 (some true) (evBin prog M43 .gtr 3 t38 (.int .i64 0)) (fun t39 M44 => (stepK C M44 (some true) (.val t39 M44) (fun t40 M45 => (stepK C M45 (wantB true t40) (evFieldAddr prog M45 61 (e 4) 0) (fun t41 M46 => (stepK C M46 (wantB true t40) (evLoad prog M46 24 t41) (fun t42 M47 => (stepK C M47 (wantB true t40) (.val (e 0) M47) (fun t43 M48 => (stepK C M48 (wantB true t40) (.val (e 3) M48) (fun t44 M49 => (stepK C M49 (wantB true t40) (evBin prog M49 .sub 3 t44 (.int .i64 1)) (fun t45 M50 => (stepK C M50 (wantB true t40) (evIndexAddr prog M50 42 t43 t45) (fun t46 M51 => (stepK C M51 (wantB true t40) (evFieldAddr prog M51 61 t46 0) (fun t47 M52 => (stepK C M52 (wantB true t40) (evLoad prog M52 24 t47) (fun t48 M53 => (stepK C M53 (wantB true t40) (evBin prog M53 .leq 24 t42 t48) (fun t49 M54 => (stepK C M54 (wantB true t40) (.val t49 M54) (fun t50 M55 => (stepK C M55 (wantB false t50) (evFieldAddr prog M55 61 (e 4) 1) (fun t51 M56 => (stepK C M56 (wantB false t50) (evLoad prog M56 24 t51) (fun t52 M57 => (stepK C M57 (wantB false t50) (.val (e 0) M57) (fun t53 M58 => (stepK C M58 (wantB false t50) (.val (e 3) M58) (fun t54 M59 => (stepK C M59 (wantB false t50) (evBin prog M59 .sub 3 t54 (.int .i64 1)) (fun t55 M60 => (stepK C M60 (wantB false t50) (evIndexAddr prog M60 42 t53 t55) (fun t56 M61 => (stepK C M61 (wantB false t50) (evFieldAddr prog M61 61 t56 1) (fun t57 M62 => (stepK C M62 (wantB false t50) (evLoad prog M62 24 t57) (fun t58 M63 => (stepK C M63 (wantB false t50) (evBin prog M63 .lss 24 t52 t58) (fun t59 M64 => (stepK C M64 (wantB true t40) (evPick M64 t50 (.bool true) t59) (fun t60 M65 => (stepK C M65 (wantB true t40) (.val t60 M65) (fun t61 M66 => (stepK C M66 (wantB false t61) (evFieldAddr prog M66 61 (e 4) 2) (fun t62 M67 => (stepK C M67 (wantB false t61) (evLoad prog M67 24 t62) (fun t63 M68 => (stepK C M68 (wantB false t61) (.val (e 0) M68) (fun t64 M69 => (stepK C M69 (wantB false t61) (.val (e 3) M69) (fun t65 M70 => (stepK C M70 (wantB false t61) (evBin prog M70 .sub 3 t65 (.int .i64 1)) (fun t66 M71 => (stepK C M71 (wantB false t61) (evIndexAddr prog M71 42 t64 t66) (fun t67 M72 => (stepK C M72 (wantB false t61) (evFieldAddr prog M72 61 t67 2) (fun t68 M73 => (stepK C M73 (wantB false t61) (evLoad prog M73 24 t68) (fun t69 M74 => (stepK C M74 (wantB false t61) (evBin prog M74 .lss 24 t63 t69) (fun t70 M75 => (stepK C M75 (wantB true t40) (evPick M75 t61 (.bool true) t70) (fun t71 M76 => (stepK C M76 (some true) (evPick M76 t40 t71 (.bool false)) (fun t72 M77 => (condK t72 (stepK C M77 (some true) (.val (.int .i64 1) M77) (fun t2 M78 => (some (t2, M78)))) (J135_5 C (fput (fput (fput (fput (fput (fput (fput (fput (fput (fput (fput (fput (fput (fput (fput (fput (fput (fput (fput (fput (fput (fput (fput (fput (fput (fput (fput (fput (fput (fput (fput (fput (fput (fput (fput e (some 38) t38) (some 39) t39) (some 40) t40) (some 41) t41) (some 42) t42) (some 43) t43) (some 44) t44) (some 45) t45) (some 46) t46) (some 47) t47) (some 48) t48) (some 49) t49) (some 50) t50) (some 51) t51) (some 52) t52) (some 53) t53) (some 54) t54) (some 55) t55) (some 56) t56) (some 57) t57) (some 58) t58) (some 59) t59) (some 60) t60) (some 61) t61) (some 62) t62) (some 63) t63) (some 64) t64) (some 65) t65) (some 66) t66) (some 67) t67) (some 68) t68) (some 69) t69) (some 70) t70) (some 71) t71) (some 72) t72) M77)))))))))))))))))))))))))))))))))))))))))))))))))))))))))))))))))))))))) := by kernel_rfl
theorem run135 {L : Lib} (hL : L 135 = none) (args : List AVal) (M : Mem) : callW prog L 135 args M = J135_0 (callW prog L) (argsF args) M :=
  callW_run hL (fn := f135) (by kernel_rfl) (b := c135) (by kernel_rfl) args M
/-! platformfw/thermal.CheckTrips -/
noncomputable def c136 : Code := bodyOf f136
noncomputable def J136_0 (C : Caller) : Kn := codeK prog C c136 (retK prog f136.results) noneX (retK prog f136.results)
noncomputable def c136_1 : Code := cr c136
noncomputable def c136_2 : Code := cl c136
noncomputable def c136_3 : Code := cr c136_1
noncomputable def c136_4 : Code := cl c136_1
noncomputable def c136_5 : Code := cr c136_4
noncomputable def c136_6 : Code := cl c136_4
noncomputable def J136_1 (C : Caller) : Kn := codeK prog C c136_3 (retK prog f136.results) noneX (retK prog f136.results)
noncomputable def c136_7 : Code := cl c136_5
noncomputable def c136_8 : Code := cr c136_7
noncomputable def c136_9 : Code := cl c136_7
noncomputable def c136_10 : Code := cr c136_5
noncomputable def c136_11 : Code := cr c136_3
noncomputable def c136_12 : Code := cl c136_3
noncomputable def c136_13 : Code := cr c136_12
noncomputable def c136_14 : Code := cl c136_12
noncomputable def J136_2 (C : Caller) : Kn := codeK prog C c136_11 (retK prog f136.results) noneX (retK prog f136.results)
noncomputable def c136_15 : Code := cl c136_13
noncomputable def W136_3 (C : Caller) : Kn := codeK prog C c136_15 (J136_2 C) (blockX 0 (J136_2 C) noneX) (retK prog f136.results)
noncomputable def c136_16 : Code := cr c136_11
noncomputable def c136_17 : Code := cl c136_11
noncomputable def c136_18 : Code := cl c136_15
noncomputable def c136_19 : Code := cr c136_18
noncomputable def c136_20 : Code := cl c136_18
noncomputable def c136_21 : Code := cr c136_19
noncomputable def c136_22 : Code := cl c136_19
noncomputable def J136_4 (C : Caller) : Kn := codeK prog C c136_21 (W136_3 C) (blockX 0 (J136_2 C) noneX) (retK prog f136.results)
noncomputable def c136_23 : Code := cl c136_22
noncomputable def c136_24 : Code := cr c136_22
noncomputable def c136_25 : Code := cr c136_21
noncomputable def c136_26 : Code := cl c136_21
noncomputable def J136_5 (C : Caller) : Kn := codeK prog C c136_25 (W136_3 C) (blockX 0 (J136_2 C) noneX) (retK prog f136.results)
noncomputable def c136_27 : Code := cl c136_26
noncomputable def c136_28 : Code := cr c136_27
noncomputable def c136_29 : Code := cl c136_27
noncomputable def c136_30 : Code := cr c136_28
noncomputable def c136_31 : Code := cl c136_28
noncomputable def c136_32 : Code := cl c136_30
noncomputable def c136_33 : Code := cr c136_32
noncomputable def c136_34 : Code := cl c136_32
noncomputable def c136_35 : Code := cr c136_30
theorem J136_0_eq (C : Caller) (e : FEnv) (M : Mem) : J136_0 C e M = (stepK C M (some true) (.val (.int .i64 0) M) (fun t2 M1 => (stepK C M1 (some true) (.val (e 0) M1) (fun t5 M2 => (stepK C M2 (some true) (Go.VE.builtin prog M2 .len #[43] [t5]) (fun t6 M3 => (stepK C M3 (some true) (evBin prog M3 .gtr 3 t6 (.int .i64 12)) (fun t7 M4 => (condK t7 (stepK C M4 (some true) (.val (.int .i64 1) M4) (fun t2 M5 => (some (t2, M5)))) (J136_1 C (fput (fput (fput (fput e (some 2) t2) (some 5) t5) (some 6) t6) (some 7) t7) M4)))))))))) := by kernel_rfl
theorem J136_1_eq (C : Caller) (e : FEnv) (M : Mem) : J136_1 C e M = (stepK C M (some true) (.val (e 0) M) (fun t8 M6 => (stepK C M6 (some true) (Go.VE.builtin prog M6 .len #[43] [t8]) (fun t9 M7 => (stepK C M7 (some true) (.val (.int .i64 0) M7) (fun t10 M8 => (W136_3 C (fput (fput (fput e (some 8) t8) (some 9) t9) (some 10) t10) M8))))))) := by kernel_rfl
theorem J136_2_eq (C : Caller) (e : FEnv) (M : Mem) : J136_2 C e M = (stepK C M (some true) (.val (.int .i64 0) M) (fun t2 M9 => (some (t2, M9)))) := by kernel_rfl
theorem W136_3_eq (C : Caller) (e : FEnv) (M : Mem) : W136_3 C e M = (stepK C M (some true) (evBin prog M .lss 3 (e 10) (e 9)) (fun t11 M10 => (condK t11 (J136_4 C (fput e (some 11) t11) M10) (J136_2 C (fput e (some 11) t11) M10)))) :=
  Eq.trans (b := codeK prog C (.loop c136_18) (J136_2 C) (blockX 0 (J136_2 C) noneX) (retK prog f136.results) e M) (by kernel_rfl) ((congrFun (congrFun (loopK_fix C c136_18 (J136_2 C) (blockX 0 (J136_2 C) noneX) (retK prog f136.results)) e) M).trans (by kernel_rfl))
theorem J136_4_eq (C : Caller) (e : FEnv) (M : Mem) : J136_4 C e M = (stepK C M (some true) (evIndexAddr prog M 43 (e 8) (e 10)) (fun t12 M11 => (stepK C M11 (some true) (evLoad prog M11 205 t12) (fun t13 M12 => (stepK C M12 (some true) (evNew M12 (zero prog 205)) (fun t4 M13 => (stepK C M13 (some true) (evStore prog M13 205 t4 t13) (fun _ M14 => (stepK C M14 (some true) (evFieldAddr prog M14 205 t4 0) (fun t14 M15 => (stepK C M15 (some true) (evLoad prog M15 3 t14) (fun t15 M16 => (stepK C M16 (some true) (evBin prog M16 .lss 3 t15 (.int .i64 1)) (fun t16 M17 => (stepK C M17 (some true) (.val t16 M17) (fun t17 M18 => (stepK C M18 (wantB false t17) (evFieldAddr prog M18 205 t4 0) (fun t18 M19 => (stepK C M19 (wantB false t17) (evLoad prog M19 3 t18) (fun t19 M20 => (stepK C M20 (wantB false t17) (evBin prog M20 .gtr 3 t19 (.int .i64 3)) (fun t20 M21 => (stepK C M21 (some true) (evPick M21 t17 (.bool true) t20) (fun t21 M22 => (stepK C M22 (some true) (.val t21 M22) (fun t22 M23 => (stepK C M23 (wantB false t22) (evFieldAddr prog M23 205 t4 1) (fun t23 M24 => (stepK C M24 (wantB false t22) (evLoad prog M24 2 t23) (fun t24 M25 => (stepK C M25 (wantB false t22) (evBin prog M25 .lss 2 t24 (.int .i64 (-67108864))) (fun t25 M26 => (stepK C M26 (some true) (evPick M26 t22 (.bool true) t25) (fun t26 M27 => (stepK C M27 (some true) (.val t26 M27) (fun t27 M28 => (stepK C M28 (wantB false t27) (evFieldAddr prog M28 205 t4 1) (fun t28 M29 => (stepK C M29 (wantB false t27) (evLoad prog M29 2 t28) (fun t29 M30 => (stepK C M30 (wantB false t27) (evBin prog M30 .gtr 2 t29 (.int .i64 67108864)) (fun t30 M31 => (stepK C M31 (some true) (evPick M31 t27 (.bool true) t30) (fun t31 M32 => (stepK C M32 (some true) (.val t31 M32) (fun t32 M33 => (stepK C M33 (wantB false t32) (evFieldAddr prog M33 205 t4 2) (fun t33 M34 => (stepK C M34 (wantB false t32) (evLoad prog M34 2 t33) (fun t34 M35 => (stepK C M35 (wantB false t32) (evBin prog M35 .lss 2 t34 (.int .i64 0)) (fun t35 M36 => (stepK C M36 (some true) (evPick M36 t32 (.bool true) t35) (fun t36 M37 => (stepK C M37 (some true) (.val t36 M37) (fun t37 M38 => (stepK C M38 (wantB false t37) (evFieldAddr prog M38 205 t4 2) (fun t38 M39 => (stepK C M39 (wantB false t37) (evLoad prog M39 2 t38) (fun t39 M40 => (stepK C M40 (wantB false t37) (evBin prog M40 .gtr 2 t39 (.int .i64 16777216)) (fun t40 M41 => (stepK C M41 (some true) (evPick M41 t37 (.bool true) t40) (fun t41 M42 => (condK t41 (stepK C M42 (some true) (.val (.int .i64 1) M42) (fun t2 M43 => (some (t2, M43)))) (J136_5 C (fput (fput (fput (fput (fput (fput (fput (fput (fput (fput (fput (fput (fput (fput (fput (fput (fput (fput (fput (fput (fput (fput (fput (fput (fput (fput (fput (fput (fput (fput (fput e (some 12) t12) (some 13) t13) (some 4) t4) (some 14) t14) (some 15) t15) (some 16) t16) (some 17) t17) (some 18) t18) (some 19) t19) (some 20) t20) (some 21) t21) (some 22) t22) (some 23) t23) (some 24) t24) (some 25) t25) (some 26) t26) (some 27) t27) (some 28) t28) (some 29) t29) (some 30) t30) (some 31) t31) (some 32) t32) (some 33) t33) (some 34) t34) (some 35) t35) (some 36) t36) (some 37) t37) (some 38) t38) (some 39) t39) (some 40) t40) (some 41) t41) M42)))))))))))))))))))))))))))))))))))))))))))))))))))))))))))))))))) := by kernel_rfl
theorem J136_5_eq (C : Caller) (e : FEnv) (M : Mem) : J136_5 C e M = (stepK C M (some true) (evBin prog M .add 3 (e 10) (.int .i64 1)) (fun t42 M44 => (stepK C M44 (some true) (.val t42 M44) (fun t10 M45 => (W136_3 C (fput (fput e (some 42) t42) (some 10) t10) M45))))) := by kernel_rfl
theorem run136 {L : Lib} (hL : L 136 = none) (args : List AVal) (M : Mem) : callW prog L 136 args M = J136_0 (callW prog L) (argsF args) M :=
  callW_run hL (fn := f136) (by kernel_rfl) (b := c136) (by kernel_rfl) args M
/-! slices.ContainsFunc[[]platformfw/api.HeatLink,platformfw/api.HeatLink] -/
noncomputable def c165 : Code := bodyOf f165
noncomputable def J165_0 (C : Caller) : Kn := codeK prog C c165 (retK prog f165.results) noneX (retK prog f165.results)
noncomputable def c165_1 : Code := cr c165
noncomputable def c165_2 : Code := cl c165
noncomputable def c165_3 : Code := cr c165_1
noncomputable def c165_4 : Code := cl c165_1
theorem J165_0_eq (C : Caller) (e : FEnv) (M : Mem) : J165_0 C e M = (stepK C M (some true) (.val (.bool false) M) (fun t4 M1 => (stepK C M1 (some true) (.val (e 0) M1) (fun t5 M2 => (stepK C M2 (some true) (.val (e 1) M2) (fun t6 M3 => (stepK C M3 (some true) (.call 203 [t5, t6]) (fun t7 M4 => (stepK C M4 (some true) (evBin prog M4 .geq 3 t7 (.int .i64 0)) (fun t8 M5 => (stepK C M5 (some true) (.val t8 M5) (fun t4 M6 => (some (t4, M6)))))))))))))) := by kernel_rfl
theorem run165 {L : Lib} (hL : L 165 = none) (args : List AVal) (M : Mem) : callW prog L 165 args M = J165_0 (callW prog L) (argsF args) M :=
  callW_run hL (fn := f165) (by kernel_rfl) (b := c165) (by kernel_rfl) args M
/-! platformfw/heat.validLinks$1 -/
noncomputable def c166 : Code := bodyOf f166
noncomputable def J166_0 (C : Caller) : Kn := codeK prog C c166 (retK prog f166.results) noneX (retK prog f166.results)
noncomputable def c166_1 : Code := cr c166
noncomputable def c166_2 : Code := cl c166
noncomputable def c166_3 : Code := cr c166_1
noncomputable def c166_4 : Code := cl c166_1
theorem J166_0_eq (C : Caller) (e : FEnv) (M : Mem) : J166_0 C e M = (stepK C M (some true) (evNew M (e 0)) (fun t2 M1 => (stepK C M1 (some true) (.val (.bool false) M1) (fun t3 M2 => (stepK C M2 (some true) (evLoad prog M2 210 (e 1)) (fun t4 M3 => (stepK C M3 (some true) (evLoad prog M3 210 t2) (fun t5 M4 => (stepK C M4 (some true) (.call 167 [t4, t5]) (fun t6 M5 => (stepK C M5 (some true) (.val t6 M5) (fun t3 M6 => (some (t3, M6)))))))))))))) := by kernel_rfl
theorem run166 {L : Lib} (hL : L 166 = none) (args : List AVal) (M : Mem) : callW prog L 166 args M = J166_0 (callW prog L) (argsF args) M :=
  callW_run hL (fn := f166) (by kernel_rfl) (b := c166) (by kernel_rfl) args M
/-! platformfw/heat.connects -/
noncomputable def c167 : Code := bodyOf f167
noncomputable def J167_0 (C : Caller) : Kn := codeK prog C c167 (retK prog f167.results) noneX (retK prog f167.results)
noncomputable def c167_1 : Code := cr c167
noncomputable def c167_2 : Code := cl c167
noncomputable def c167_3 : Code := cr c167_1
noncomputable def c167_4 : Code := cl c167_1
theorem J167_0_eq (C : Caller) (e : FEnv) (M : Mem) : J167_0 C e M = (stepK C M (some true) (evNew M (e 0)) (fun t2 M1 => (stepK C M1 (some true) (evNew M1 (e 1)) (fun t3 M2 => (stepK C M2 (some true) (.val (.bool false) M2) (fun t4 M3 => (stepK C M3 (some true) (evFieldAddr prog M3 210 t2 0) (fun t5 M4 => (stepK C M4 (some true) (evLoad prog M4 3 t5) (fun t6 M5 => (stepK C M5 (some true) (evFieldAddr prog M5 210 t3 0) (fun t7 M6 => (stepK C M6 (some true) (evLoad prog M6 3 t7) (fun t8 M7 => (stepK C M7 (some true) (evBin prog M7 .eql 3 t6 t8) (fun t9 M8 => (stepK C M8 (some true) (.val t9 M8) (fun t10 M9 => (stepK C M9 (wantB true t10) (evFieldAddr prog M9 210 t2 1) (fun t11 M10 => (stepK C M10 (wantB true t10) (evLoad prog M10 3 t11) (fun t12 M11 => (stepK C M11 (wantB true t10) (evFieldAddr prog M11 210 t3 1) (fun t13 M12 => (stepK C M12 (wantB true t10) (evLoad prog M12 3 t13) (fun t14 M13 => (stepK C M13 (wantB true t10) (evBin prog M13 .eql 3 t12 t14) (fun t15 M14 => (stepK C M14 (some true) (evPick M14 t10 t15 (.bool false)) (fun t16 M15 => (stepK C M15 (some true) (.val t16 M15) (fun t17 M16 => (stepK C M16 (wantB false t17) (evFieldAddr prog M16 210 t2 0) (fun t18 M17 => (stepK C M17 (wantB false t17) (evLoad prog M17 3 t18) (fun t19 M18 => (stepK C M18 (wantB false t17) (evFieldAddr prog M18 210 t3 1) (fun t20 M19 => (stepK C M19 (wantB false t17) (evLoad prog M19 3 t20) (fun t21 M20 => (stepK C M20 (wantB false t17) (evBin prog M20 .eql 3 t19 t21) (fun t22 M21 => (stepK C M21 (wantB false t17) (.val t22 M21) (fun t23 M22 => (stepK C M22 (wantB true t23) (evFieldAddr prog M22 210 t2 1) (fun t24 M23 => (stepK C M23 (wantB true t23) (evLoad prog M23 3 t24) (fun t25 M24 => (stepK C M24 (wantB true t23) (evFieldAddr prog M24 210 t3 0) (fun t26 M25 => (stepK C M25 (wantB true t23) (evLoad prog M25 3 t26) (fun t27 M26 => (stepK C M26 (wantB true t23) (evBin prog M26 .eql 3 t25 t27) (fun t28 M27 => (stepK C M27 (wantB false t17) (evPick M27 t23 t28 (.bool false)) (fun t29 M28 => (stepK C M28 (some true) (evPick M28 t17 (.bool true) t29) (fun t30 M29 => (stepK C M29 (some true) (.val t30 M29) (fun t4 M30 => (some (t4, M30)))))))))))))))))))))))))))))))))))))))))))))))))))))))))))))) := by kernel_rfl
theorem run167 {L : Lib} (hL : L 167 = none) (args : List AVal) (M : Mem) : callW prog L 167 args M = J167_0 (callW prog L) (argsF args) M :=
  callW_run hL (fn := f167) (by kernel_rfl) (b := c167) (by kernel_rfl) args M
/-! slices.IndexFunc[[]platformfw/api.HeatLink,platformfw/api.HeatLink] -/
noncomputable def c203 : Code := bodyOf f203
noncomputable def J203_0 (C : Caller) : Kn := codeK prog C c203 (retK prog f203.results) noneX (retK prog f203.results)
noncomputable def c203_1 : Code := cr c203
noncomputable def c203_2 : Code := cl c203
noncomputable def c203_3 : Code := cr c203_1
noncomputable def c203_4 : Code := cl c203_1
noncomputable def c203_5 : Code := cr c203_4
noncomputable def c203_6 : Code := cl c203_4
noncomputable def J203_1 (C : Caller) : Kn := codeK prog C c203_3 (retK prog f203.results) noneX (retK prog f203.results)
noncomputable def c203_7 : Code := cl c203_5
noncomputable def W203_2 (C : Caller) : Kn := codeK prog C c203_7 (J203_1 C) (blockX 0 (J203_1 C) noneX) (retK prog f203.results)
noncomputable def c203_8 : Code := cr c203_3
noncomputable def c203_9 : Code := cl c203_3
noncomputable def c203_10 : Code := cl c203_7
noncomputable def c203_11 : Code := cr c203_10
noncomputable def c203_12 : Code := cl c203_10
noncomputable def c203_13 : Code := cr c203_11
noncomputable def c203_14 : Code := cl c203_11
noncomputable def J203_3 (C : Caller) : Kn := codeK prog C c203_13 (W203_2 C) (blockX 0 (J203_1 C) noneX) (retK prog f203.results)
noncomputable def c203_15 : Code := cl c203_14
noncomputable def c203_16 : Code := cr c203_14
noncomputable def c203_17 : Code := cr c203_13
noncomputable def c203_18 : Code := cl c203_13
noncomputable def J203_4 (C : Caller) : Kn := codeK prog C c203_17 (W203_2 C) (blockX 0 (J203_1 C) noneX) (retK prog f203.results)
noncomputable def c203_19 : Code := cl c203_18
noncomputable def c203_20 : Code := cr c203_19
noncomputable def c203_21 : Code := cl c203_19
noncomputable def c203_22 : Code := cr c203_20
noncomputable def c203_23 : Code := cl c203_20
noncomputable def c203_24 : Code := cl c203_22
noncomputable def c203_25 : Code := cr c203_24
noncomputable def c203_26 : Code := cl c203_24
noncomputable def c203_27 : Code := cr c203_22
theorem J203_0_eq (C : Caller) (e : FEnv) (M : Mem) : J203_0 C e M = (stepK C M (some true) (.val (.int .i64 0) M) (fun t4 M1 => (stepK C M1 (some true) (.val (e 0) M1) (fun t6 M2 => (stepK C M2 (some true) (Go.VE.builtin prog M2 .len #[23] [t6]) (fun t7 M3 => (stepK C M3 (some true) (.val (.int .i64 0) M3) (fun t8 M4 => (W203_2 C (fput (fput (fput (fput e (some 4) t4) (some 6) t6) (some 7) t7) (some 8) t8) M4))))))))) := by kernel_rfl
theorem J203_1_eq (C : Caller) (e : FEnv) (M : Mem) : J203_1 C e M = (stepK C M (some true) (.val (.int .i64 (-1)) M) (fun t4 M5 => (some (t4, M5)))) := by kernel_rfl
theorem W203_2_eq (C : Caller) (e : FEnv) (M : Mem) : W203_2 C e M = (stepK C M (some true) (evBin prog M .lss 3 (e 8) (e 7)) (fun t9 M6 => (condK t9 (J203_3 C (fput e (some 9) t9) M6) (J203_1 C (fput e (some 9) t9) M6)))) :=
  Eq.trans (b := codeK prog C (.loop c203_10) (J203_1 C) (blockX 0 (J203_1 C) noneX) (retK prog f203.results) e M) (by kernel_rfl) ((congrFun (congrFun (loopK_fix C c203_10 (J203_1 C) (blockX 0 (J203_1 C) noneX) (retK prog f203.results)) e) M).trans (by kernel_rfl))
theorem J203_3_eq (C : Caller) (e : FEnv) (M : Mem) : J203_3 C e M = (stepK C M (some true) (.val (e 8) M) (fun t10 M7 => (stepK C M7 (some true) (.val t10 M7) (fun t5 M8 => (stepK C M8 (some true) (.val (e 1) M8) (fun t11 M9 => (stepK C M9 (some true) (.val (e 0) M9) (fun t12 M10 => (stepK C M10 (some true) (.val t5 M10) (fun t13 M11 => (stepK C M11 (some true) (evIndexAddr prog M11 23 t12 t13) (fun t14 M12 => (stepK C M12 (some true) (evLoad prog M12 210 t14) (fun t15 M13 => (stepK C M13 (some true) (evCallee prog M13 t11 [t15]) (fun t16 M14 => (condK t16 (stepK C M14 (some true) (.val t5 M14) (fun t17 M15 => (stepK C M15 (some true) (.val t17 M15) (fun t4 M16 => (some (t4, M16)))))) (J203_4 C (fput (fput (fput (fput (fput (fput (fput (fput e (some 10) t10) (some 5) t5) (some 11) t11) (some 12) t12) (some 13) t13) (some 14) t14) (some 15) t15) (some 16) t16) M14)))))))))))))))))) := by kernel_rfl
theorem J203_4_eq (C : Caller) (e : FEnv) (M : Mem) : J203_4 C e M = (stepK C M (some true) (evBin prog M .add 3 (e 8) (.int .i64 1)) (fun t18 M17 => (stepK C M17 (some true) (.val t18 M17) (fun t8 M18 => (W203_2 C (fput (fput e (some 18) t18) (some 8) t8) M18))))) := by kernel_rfl
theorem run203 {L : Lib} (hL : L 203 = none) (args : List AVal) (M : Mem) : callW prog L 203 args M = J203_0 (callW prog L) (argsF args) M :=
  callW_run hL (fn := f203) (by kernel_rfl) (b := c203) (by kernel_rfl) args M
/-! slices.Values[[]int,int]$1 -/
noncomputable def c218 : Code := bodyOf f218
noncomputable def J218_0 (C : Caller) : Kn := codeK prog C c218 (retK prog f218.results) noneX (retK prog f218.results)
noncomputable def c218_1 : Code := cr c218
noncomputable def c218_2 : Code := cl c218
noncomputable def c218_3 : Code := cl c218_1
noncomputable def W218_1 (C : Caller) : Kn := codeK prog C c218_3 (retK prog f218.results) (blockX 0 (retK prog f218.results) noneX) (retK prog f218.results)
noncomputable def c218_4 : Code := cl c218_3
noncomputable def c218_5 : Code := cr c218_4
noncomputable def c218_6 : Code := cl c218_4
noncomputable def c218_7 : Code := cr c218_5
noncomputable def c218_8 : Code := cl c218_5
noncomputable def J218_2 (C : Caller) : Kn := codeK prog C c218_7 (W218_1 C) (blockX 0 (retK prog f218.results) noneX) (retK prog f218.results)
noncomputable def c218_9 : Code := cl c218_8
noncomputable def c218_10 : Code := cr c218_8
noncomputable def c218_11 : Code := cr c218_7
noncomputable def c218_12 : Code := cl c218_7
noncomputable def J218_3 (C : Caller) : Kn := codeK prog C c218_11 (W218_1 C) (blockX 0 (retK prog f218.results) noneX) (retK prog f218.results)
noncomputable def c218_13 : Code := cl c218_12
noncomputable def c218_14 : Code := cr c218_13
noncomputable def c218_15 : Code := cl c218_13
noncomputable def c218_16 : Code := cr c218_14
noncomputable def c218_17 : Code := cl c218_14
noncomputable def c218_18 : Code := cl c218_16
noncomputable def c218_19 : Code := cr c218_16
theorem J218_0_eq (C : Caller) (e : FEnv) (M : Mem) : J218_0 C e M = (stepK C M (some true) (evLoad prog M 48 (e 1)) (fun t5 M1 => (stepK C M1 (some true) (Go.VE.builtin prog M1 .len #[48] [t5]) (fun t6 M2 => (stepK C M2 (some true) (.val (.int .i64 0) M2) (fun t7 M3 => (W218_1 C (fput (fput (fput e (some 5) t5) (some 6) t6) (some 7) t7) M3))))))) := by kernel_rfl
theorem W218_1_eq (C : Caller) (e : FEnv) (M : Mem) : W218_1 C e M = (stepK C M (some true) (evBin prog M .lss 3 (e 7) (e 6)) (fun t8 M4 => (condK t8 (J218_2 C (fput e (some 8) t8) M4) (some (.tuple [], M4))))) :=
  Eq.trans (b := codeK prog C (.loop c218_4) (retK prog f218.results) (blockX 0 (retK prog f218.results) noneX) (retK prog f218.results) e M) (by kernel_rfl) ((congrFun (congrFun (loopK_fix C c218_4 (retK prog f218.results) (blockX 0 (retK prog f218.results) noneX) (retK prog f218.results)) e) M).trans (by kernel_rfl))
theorem J218_2_eq (C : Caller) (e : FEnv) (M : Mem) : J218_2 C e M = (stepK C M (some true) (evIndexAddr prog M 48 (e 5) (e 7)) (fun t9 M5 => (stepK C M5 (some true) (evLoad prog M5 3 t9) (fun t10 M6 => (stepK C M6 (some true) (.val t10 M6) (fun t4 M7 => (stepK C M7 (some true) (.val (e 0) M7) (fun t11 M8 => (stepK C M8 (some true) (.val t4 M8) (fun t12 M9 => (stepK C M9 (some true) (evCallee prog M9 t11 [t12]) (fun t13 M10 => (stepK C M10 (some true) (OpR.ofOpt M10 (unOp .not t13)) (fun t14 M11 => (condK t14 (some (.tuple [], M11)) (J218_3 C (fput (fput (fput (fput (fput (fput (fput e (some 9) t9) (some 10) t10) (some 4) t4) (some 11) t11) (some 12) t12) (some 13) t13) (some 14) t14) M11)))))))))))))))) := by kernel_rfl
theorem J218_3_eq (C : Caller) (e : FEnv) (M : Mem) : J218_3 C e M = (stepK C M (some true) (evBin prog M .add 3 (e 7) (.int .i64 1)) (fun t15 M12 => (stepK C M12 (some true) (.val t15 M12) (fun t7 M13 => (W218_1 C (fput (fput e (some 15) t15) (some 7) t7) M13))))) := by kernel_rfl
theorem run218 {L : Lib} (hL : L 218 = none) (args : List AVal) (M : Mem) : callW prog L 218 args M = J218_0 (callW prog L) (argsF args) M :=
  callW_run hL (fn := f218) (by kernel_rfl) (b := c218) (by kernel_rfl) args M
end Go.Proofs.Tryz.W
