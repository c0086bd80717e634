/- The functions as nested words with named values, each held against its code by the kernel. Printed by a program of this work (sh.py). -/
import Derived.Test.YtccjanieihlpcaaKPolCode
set_option maxRecDepth 100000
set_option linter.unusedVariables false
namespace Go.Proofs.Ytccjanieihlpcaa.K
open Go Go.Proofs
def s7 (S : Sys) (a0 a1 a2 : Value) (H : Heap) (R : Kv) : Prop := run S (.call 24 []) [] H fun t8_1 H => run S (.un .not (.c t8_1)) [] H fun t9_2 H => jn (sq (fun e4 H
  => run S (.call 36 [(.c (e4.get 0)), (.c (e4.get 1)), (.c (e4.get 2))]) [] H fun t13_5 H => run S (.call 37 [(.c (e4.get 0)), (.c (e4.get 1)), (.c (e4.get 2))]) [] H
  fun t18_6 H => run S (.bin .eql (.c t13_5) (.c t18_6)) [] H fun t19_7 H => gd t19_7 true (run S (.mv (.c t13_5)) [] H) H fun t21_8 H => gd t19_7 true (run S (.bin .geq
  (.c t21_8) (.c (.int .i64 0))) [] H) H fun t22_9 H => run S (.pick (.c t19_7) (.c t22_9) (.c (.bool false))) [] H fun t23_10 H => gd t23_10 true (run S (.mv (.c
  t13_5)) [] H) H fun t25_11 H => gd t23_10 true (run S (.mv (.c (e4.get 0))) [] H) H fun t26_12 H => gd t23_10 true (run S (.mx (.c t26_12) [(.c (.int .i64 0))]) [] H)
  H fun t27_13 H => gd t23_10 true (run S (.bin .leq (.c t25_11) (.c t27_13)) [] H) H fun t28_14 H => run S (.pick (.c t23_10) (.c t28_14) (.c (.bool false))) [] H fun
  t29_15 H => gd t29_15 true (run S (.mv (.c t13_5)) [] H) H fun t31_16 H => gd t29_15 true (run S (.bin .eql (.c t31_16) (.c (.int .i64 0))) [] H) H fun t32_17 H => gd
  t29_15 true (run S (.mv (.c t32_17)) [] H) H fun t33_18 H => gd t33_18 false (run S (.mv (.c t13_5)) [] H) H fun t34_19 H => gd t33_18 false (run S (.mv (.c (e4.get
  1))) [] H) H fun t35_20 H => gd t33_18 false (run S (.bin .leq (.c t34_19) (.c t35_20)) [] H) H fun t36_21 H => gd t33_18 false (run S (.mv (.c t36_21)) [] H) H fun
  t37_22 H => gd t37_22 true (run S (.mv (.c (e4.get 1))) [] H) H fun t38_23 H => gd t37_22 true (run S (.mv (.c t13_5)) [] H) H fun t39_24 H => gd t37_22 true (run S
  (.bin .sub (.c t38_23) (.c t39_24)) [] H) H fun t40_25 H => gd t37_22 true (run S (.mv (.c (e4.get 2))) [] H) H fun t41_26 H => gd t37_22 true (run S (.mx (.c t41_26)
  [(.c (.int .i64 0))]) [] H) H fun t42_27 H => gd t37_22 true (run S (.bin .geq (.c t40_25) (.c t42_27)) [] H) H fun t43_28 H => gd t33_18 false (run S (.pick (.c
  t37_22) (.c t43_28) (.c (.bool false))) [] H) H fun t44_29 H => gd t29_15 true (run S (.pick (.c t33_18) (.c (.bool true)) (.c t44_29)) [] H) H fun t45_30 H => run S
  (.pick (.c t29_15) (.c t45_30) (.c (.bool false))) [] H fun t46_31 H => R t46_31 H) (fin [(.t 6)] R)) fun Q3 => cnd t9_2 (fun Q32 => Q32 .ret [a0, a1, a2, undef,
  undef, undef, (.bool false), undef, t8_1, t9_2] H) (fun Q33 => Q33 .normal [a0, a1, a2, undef, undef, undef, (.bool false), undef, t8_1, t9_2] H) Q3
theorem h7 (S : Sys) (a0 a1 a2 : Value) (H : Heap) (R : Kv) : wpC S k7.body [a0, a1, a2] H (fin [(.t 6)] R) = s7 S a0 a1 a2 H R := by kernel_rfl
def s36 (S : Sys) (a0 a1 a2 : Value) (H : Heap) (R : Kv) : Prop := run S (.mx (.c a0) [(.c (.int .i64 0))]) [] H fun t8_1 H => run S (.mx (.c a1) [(.c (.int .i64 0))])
  [] H fun t10_2 H => run S (.mx (.c a2) [(.c (.int .i64 0))]) [] H fun t12_3 H => run S (.bin .sub (.c t10_2) (.c t12_3)) [] H fun t16_4 H => run S (.mx (.c t16_4) [(.c
  (.int .i64 0))]) [] H fun t17_5 H => run S (.mn (.c t8_1) [(.c t17_5)]) [] H fun t18_6 H => R t18_6 H
theorem h36 (S : Sys) (a0 a1 a2 : Value) (H : Heap) (R : Kv) : wpC S k36.body [a0, a1, a2] H (fin [(.t 6)] R) = s36 S a0 a1 a2 H R := by kernel_rfl
def s37 (S : Sys) (a0 a1 a2 : Value) (H : Heap) (R : Kv) : Prop := run S (.bin .leq (.c a0) (.c (.int .i64 0))) [] H fun t8_1 H => gd t8_1 false (run S (.mv (.c a1)) []
  H) H fun t10_2 H => gd t8_1 false (run S (.bin .leq (.c t10_2) (.c (.int .i64 0))) [] H) H fun t11_3 H => run S (.pick (.c t8_1) (.c (.bool true)) (.c t11_3)) [] H fun
  t12_4 H => gd t12_4 false (run S (.mv (.c a2)) [] H) H fun t14_5 H => gd t12_4 false (run S (.mv (.c a1)) [] H) H fun t15_6 H => gd t12_4 false (run S (.bin .geq (.c
  t14_5) (.c t15_6)) [] H) H fun t16_7 H => run S (.pick (.c t12_4) (.c (.bool true)) (.c t16_7)) [] H fun t17_8 H => jn (sq (fun e10 H => run S (.bin .lss (.c (e10.get
  2)) (.c (.int .i64 0))) [] H fun t19_11 H => jn (sq (fun e13 H => run S (.bin .sub (.c (e13.get 1)) (.c (e13.get 2))) [] H fun t23_14 H => run S (.bin .gtr (.c
  (e13.get 0)) (.c t23_14)) [] H fun t24_15 H => jn (sq (fun e17 H => R (e17.get 0) H) (fin [(.t 6)] R)) fun Q16 => cnd t24_15 (fun Q18 => run S (.bin .sub (.c (e13.get
  1)) (.c (e13.get 2))) [] H fun t27_20 H => Q18 .ret (Env.set (Env.set (Env.set (Env.set (Env.set (Env.set (Env.set (Env.set (Env.set e13 20 (e13.get 0)) 21 (e13.get
  1)) 22 (e13.get 2)) 23 t23_14) 24 t24_15) 25 (e13.get 1)) 26 (e13.get 2)) 27 t27_20) 6 t27_20) H) (fun Q19 => Q19 .normal (Env.set (Env.set (Env.set (Env.set (Env.set
  e13 20 (e13.get 0)) 21 (e13.get 1)) 22 (e13.get 2)) 23 t23_14) 24 t24_15) H) Q16) (fin [(.t 6)] R)) fun Q12 => cnd t19_11 (fun Q21 => Q21 .normal (Env.set (Env.set
  (Env.set e10 18 (e10.get 2)) 19 t19_11) 2 (.int .i64 0)) H) (fun Q22 => Q22 .normal (Env.set (Env.set e10 18 (e10.get 2)) 19 t19_11) H) Q12) (fin [(.t 6)] R)) fun Q9
  => cnd t17_8 (fun Q23 => Q23 .ret [a0, a1, a2, undef, undef, undef, (.int .i64 0), a0, t8_1, t8_1, t10_2, t11_3, t12_4, t12_4, t14_5, t15_6, t16_7, t17_8] H) (fun Q24
  => Q24 .normal [a0, a1, a2, undef, undef, undef, (.int .i64 0), a0, t8_1, t8_1, t10_2, t11_3, t12_4, t12_4, t14_5, t15_6, t16_7, t17_8] H) Q9
theorem h37 (S : Sys) (a0 a1 a2 : Value) (H : Heap) (R : Kv) : wpC S k37.body [a0, a1, a2] H (fin [(.t 6)] R) = s37 S a0 a1 a2 H R := by kernel_rfl
def s8 (S : Sys) (a0 a1 a2 : Value) (H : Heap) (R : Kv) : Prop := run S (.call 24 []) [] H fun t11_1 H => run S (.un .not (.c t11_1)) [] H fun t12_2 H => jn (sq (fun e4
  H => run S (.mx (.c (e4.get 0)) [(.c (.int .i64 0))]) [] H fun t14_5 H => run S (.mn (.c t14_5) [(.c (.int .i64 1099511627776))]) [] H fun t15_6 H => run S (.mx (.c
  (e4.get 1)) [(.c (.int .i64 0))]) [] H fun t17_7 H => run S (.mn (.c t17_7) [(.c (.int .i64 1099511627776))]) [] H fun t18_8 H => run S (.mx (.c (e4.get 2)) [(.c (.int
  .i64 0))]) [] H fun t20_9 H => run S (.mn (.c t20_9) [(.c (.int .i64 1099511627776))]) [] H fun t21_10 H => run S (.call 38 [(.c (e4.get 0)), (.c (e4.get 1)), (.c
  (e4.get 2))]) [] H fun t25_11 H => run S (.bin .gtr (.c t21_10) (.c (.int .i64 0))) [] H fun t27_12 H => gd t27_12 true (run S (.mv (.c t15_6)) [] H) H fun t29_13 H =>
  gd t27_12 true (run S (.mv (.c t18_8)) [] H) H fun t30_14 H => gd t27_12 true (run S (.bin .sub (.c t29_13) (.c t30_14)) [] H) H fun t31_15 H => gd t27_12 true (run S
  (.mv (.c t21_10)) [] H) H fun t32_16 H => gd t27_12 true (run S (.bin .geq (.c t31_15) (.c t32_16)) [] H) H fun t33_17 H => run S (.pick (.c t27_12) (.c t33_17) (.c
  (.bool false))) [] H fun t34_18 H => run S (.eqv (.s .bool) false (.c t25_11) (.c t34_18)) [] H fun t35_19 H => gd t35_19 true (run S (.mv (.c (.pointer none))) [] H)
  H fun t37_20 H => gd t35_19 true (run S (.call 30 [(.c t37_20)]) [] H) H fun t38_21 H => gd t35_19 true (run S (.bin .eql (.c t38_21) (.c (.int .i64 0))) [] H) H fun
  t39_22 H => run S (.pick (.c t35_19) (.c t39_22) (.c (.bool false))) [] H fun t40_23 H => gd t40_23 true (run S (.mv (.c (.pointer none))) [] H) H fun t42_24 H => gd
  t40_23 true (run S (.mv (.c (e4.get 0))) [] H) H fun t43_25 H => gd t40_23 true (run S (.call 26 [(.c t42_24), (.c (.int .i64 1)), (.c t43_25)]) [] H) H fun t44_26 H
  => gd t40_23 true (run S (.un .not (.c t44_26)) [] H) H fun t45_27 H => run S (.pick (.c t40_23) (.c t45_27) (.c (.bool false))) [] H fun t46_28 H => gd t46_28 true
  (run S (.mv (.c (.pointer none))) [] H) H fun t48_29 H => gd t46_28 true (run S (.mv (.c (e4.get 1))) [] H) H fun t49_30 H => gd t46_28 true (run S (.call 27 [(.c
  t48_29), (.c (.int .i64 1)), (.c t49_30)]) [] H) H fun t50_31 H => gd t46_28 true (run S (.bin .eql (.c t50_31) (.c (.int .i64 0))) [] H) H fun t51_32 H => run S
  (.pick (.c t46_28) (.c t51_32) (.c (.bool false))) [] H fun t52_33 H => gd t52_33 true (run S (.mv (.c (.pointer none))) [] H) H fun t54_34 H => gd t52_33 true (run S
  (.call 31 [(.c t54_34)]) [] H) H fun t55_35 H => gd t52_33 true (run S (.bin .eql (.c t55_35) (.c (.int .i64 0))) [] H) H fun t56_36 H => run S (.pick (.c t52_33) (.c
  t56_36) (.c (.bool false))) [] H fun t57_37 H => gd t57_37 true (run S (.mv (.c (.pointer none))) [] H) H fun t59_38 H => gd t57_37 true (run S (.call 32 [(.c
  t59_38)]) [] H) H fun t60_39 H => gd t57_37 true (run S (.bin .eql (.c t60_39) (.c (.int .i64 0))) [] H) H fun t61_40 H => run S (.pick (.c t57_37) (.c t61_40) (.c
  (.bool false))) [] H fun t62_41 H => gd t62_41 true (run S (.mv (.c (.pointer none))) [] H) H fun t64_42 H => gd t62_41 true (run S (.mv (.c (e4.get 2))) [] H) H fun
  t65_43 H => gd t62_41 true (run S (.call 34 [(.c t64_42), (.c t65_43)]) [] H) H fun t66_44 H => gd t62_41 true (run S (.lenL (.c t66_44)) [] H) H fun t67_45 H => gd
  t62_41 true (run S (.bin .eql (.c t67_45) (.c (.int .i64 0))) [] H) H fun t68_46 H => run S (.pick (.c t62_41) (.c t68_46) (.c (.bool false))) [] H fun t69_47 H => R
  t69_47 H) (fin [(.t 6)] R)) fun Q3 => cnd t12_2 (fun Q48 => Q48 .ret [a0, a1, a2, undef, undef, undef, (.bool false), undef, undef, undef, undef, t11_1, t12_2] H) (fun
  Q49 => Q49 .normal [a0, a1, a2, undef, undef, undef, (.bool false), undef, undef, undef, undef, t11_1, t12_2] H) Q3
theorem h8 (S : Sys) (a0 a1 a2 : Value) (H : Heap) (R : Kv) : wpC S k8.body [a0, a1, a2] H (fin [(.t 6)] R) = s8 S a0 a1 a2 H R := by kernel_rfl
end Go.Proofs.Ytccjanieihlpcaa.K
