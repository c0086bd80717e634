/- The functions as nested words with named values, each held against its code by the kernel. Printed by a program of this work (sh.py). -/
import Derived.Test.YtccjanieihlpcaaKPolCode
set_option maxRecDepth 100000
set_option linter.unusedVariables false
namespace Go.Proofs.Ytccjanieihlpcaa.K
open Go Go.Proofs
def s7 (S : Sys) (a0 a1 a2 : Value) (H : Heap) (R : Kv) : Prop := run S (.call 24 []) [] H fun t8_1 H => run S (.un .not (.c t8_1)) [] H fun t9_2 H => jn (sq (fun e4 H
  => run S (.call 36 [(.c (e4 0)), (.c (e4 1)), (.c (e4 2))]) [] H fun t13_5 H => run S (.call 37 [(.c (e4 0)), (.c (e4 1)), (.c (e4 2))]) [] H fun t18_6 H => run S
  (.bin .eql (.c t13_5) (.c t18_6)) [] H fun t19_7 H => gd t19_7 true (run S (.mv (.c t13_5)) [] H) H fun t21_8 H => gd t19_7 true (run S (.bin .geq (.c t21_8) (.c (.int
  .i64 0))) [] H) H fun t22_9 H => run S (.pick (.c t19_7) (.c t22_9) (.c (.bool false))) [] H fun t23_10 H => gd t23_10 true (run S (.mv (.c t13_5)) [] H) H fun t25_11
  H => gd t23_10 true (run S (.mv (.c (e4 0))) [] H) H fun t26_12 H => gd t23_10 true (run S (.mx (.c t26_12) [(.c (.int .i64 0))]) [] H) H fun t27_13 H => gd t23_10
  true (run S (.bin .leq (.c t25_11) (.c t27_13)) [] H) H fun t28_14 H => run S (.pick (.c t23_10) (.c t28_14) (.c (.bool false))) [] H fun t29_15 H => gd t29_15 true
  (run S (.mv (.c t13_5)) [] H) H fun t31_16 H => gd t29_15 true (run S (.bin .eql (.c t31_16) (.c (.int .i64 0))) [] H) H fun t32_17 H => gd t29_15 true (run S (.mv (.c
  t32_17)) [] H) H fun t33_18 H => gd t33_18 false (run S (.mv (.c t13_5)) [] H) H fun t34_19 H => gd t33_18 false (run S (.mv (.c (e4 1))) [] H) H fun t35_20 H => gd
  t33_18 false (run S (.bin .leq (.c t34_19) (.c t35_20)) [] H) H fun t36_21 H => gd t33_18 false (run S (.mv (.c t36_21)) [] H) H fun t37_22 H => gd t37_22 true (run S
  (.mv (.c (e4 1))) [] H) H fun t38_23 H => gd t37_22 true (run S (.mv (.c t13_5)) [] H) H fun t39_24 H => gd t37_22 true (run S (.bin .sub (.c t38_23) (.c t39_24)) []
  H) H fun t40_25 H => gd t37_22 true (run S (.mv (.c (e4 2))) [] H) H fun t41_26 H => gd t37_22 true (run S (.mx (.c t41_26) [(.c (.int .i64 0))]) [] H) H fun t42_27 H
  => gd t37_22 true (run S (.bin .geq (.c t40_25) (.c t42_27)) [] H) H fun t43_28 H => gd t33_18 false (run S (.pick (.c t37_22) (.c t43_28) (.c (.bool false))) [] H) H
  fun t44_29 H => gd t29_15 true (run S (.pick (.c t33_18) (.c (.bool true)) (.c t44_29)) [] H) H fun t45_30 H => run S (.pick (.c t29_15) (.c t45_30) (.c (.bool
  false))) [] H fun t46_31 H => R t46_31 H) (fn [(.t 6)] R)) fun Q3 => cnd t9_2 (fun Q32 => Q32 .ret (upd (upd (upd (upd (Env.get [a0, a1, a2]) 6 (.bool false)) 8 t8_1)
  9 t9_2) 6 (.bool false)) H) (fun Q33 => Q33 .normal (upd (upd (upd (Env.get [a0, a1, a2]) 6 (.bool false)) 8 t8_1) 9 t9_2) H) Q3
theorem h7 (S : Sys) (a0 a1 a2 : Value) (H : Heap) (R : Kv) : wpC S k7.body (Env.get [a0, a1, a2]) H (fn [(.t 6)] R) = s7 S a0 a1 a2 H R := by kernel_rfl
theorem w7 {S : Sys} (hR : S.R 7 = none) (hF : S.F 7 = some k7) (a0 a1 a2 : Value) {H : Heap} {R : Kv} (h : s7 S a0 a1 a2 H R) : Wf S 7 [a0, a1, a2] H R := Wf_sh hR hF
  ((h7 S a0 a1 a2 H R).mpr h)
def s36 (S : Sys) (a0 a1 a2 : Value) (H : Heap) (R : Kv) : Prop := run S (.mx (.c a0) [(.c (.int .i64 0))]) [] H fun t8_1 H => run S (.mx (.c a1) [(.c (.int .i64 0))])
  [] H fun t10_2 H => run S (.mx (.c a2) [(.c (.int .i64 0))]) [] H fun t12_3 H => run S (.bin .sub (.c t10_2) (.c t12_3)) [] H fun t16_4 H => run S (.mx (.c t16_4) [(.c
  (.int .i64 0))]) [] H fun t17_5 H => run S (.mn (.c t8_1) [(.c t17_5)]) [] H fun t18_6 H => R t18_6 H
theorem h36 (S : Sys) (a0 a1 a2 : Value) (H : Heap) (R : Kv) : wpC S k36.body (Env.get [a0, a1, a2]) H (fn [(.t 6)] R) = s36 S a0 a1 a2 H R := by kernel_rfl
theorem w36 {S : Sys} (hR : S.R 36 = none) (hF : S.F 36 = some k36) (a0 a1 a2 : Value) {H : Heap} {R : Kv} (h : s36 S a0 a1 a2 H R) : Wf S 36 [a0, a1, a2] H R := Wf_sh
  hR hF ((h36 S a0 a1 a2 H R).mpr h)
def s37 (S : Sys) (a0 a1 a2 : Value) (H : Heap) (R : Kv) : Prop := run S (.bin .leq (.c a0) (.c (.int .i64 0))) [] H fun t8_1 H => gd t8_1 false (run S (.mv (.c a1)) []
  H) H fun t10_2 H => gd t8_1 false (run S (.bin .leq (.c t10_2) (.c (.int .i64 0))) [] H) H fun t11_3 H => run S (.pick (.c t8_1) (.c (.bool true)) (.c t11_3)) [] H fun
  t12_4 H => gd t12_4 false (run S (.mv (.c a2)) [] H) H fun t14_5 H => gd t12_4 false (run S (.mv (.c a1)) [] H) H fun t15_6 H => gd t12_4 false (run S (.bin .geq (.c
  t14_5) (.c t15_6)) [] H) H fun t16_7 H => run S (.pick (.c t12_4) (.c (.bool true)) (.c t16_7)) [] H fun t17_8 H => jn (sq (fun e10 H => run S (.bin .lss (.c (e10 2))
  (.c (.int .i64 0))) [] H fun t19_11 H => jn (sq (fun e13 H => run S (.bin .sub (.c (e13 1)) (.c (e13 2))) [] H fun t23_14 H => run S (.bin .gtr (.c (e13 0)) (.c
  t23_14)) [] H fun t24_15 H => jn (sq (fun e17 H => R (e17 0) H) (fn [(.t 6)] R)) fun Q16 => cnd t24_15 (fun Q18 => run S (.bin .sub (.c (e13 1)) (.c (e13 2))) [] H fun
  t27_20 H => Q18 .ret (upd (upd (upd (upd (upd (upd (upd (upd (upd e13 20 (e13 0)) 21 (e13 1)) 22 (e13 2)) 23 t23_14) 24 t24_15) 25 (e13 1)) 26 (e13 2)) 27 t27_20) 6
  t27_20) H) (fun Q19 => Q19 .normal (upd (upd (upd (upd (upd e13 20 (e13 0)) 21 (e13 1)) 22 (e13 2)) 23 t23_14) 24 t24_15) H) Q16) (fn [(.t 6)] R)) fun Q12 => cnd
  t19_11 (fun Q21 => Q21 .normal (upd (upd (upd e10 18 (e10 2)) 19 t19_11) 2 (.int .i64 0)) H) (fun Q22 => Q22 .normal (upd (upd e10 18 (e10 2)) 19 t19_11) H) Q12) (fn
  [(.t 6)] R)) fun Q9 => cnd t17_8 (fun Q23 => Q23 .ret (upd (upd (upd (upd (upd (upd (upd (upd (upd (upd (upd (upd (upd (Env.get [a0, a1, a2]) 6 (.int .i64 0)) 7 a0) 8
  t8_1) 9 t8_1) 10 t10_2) 11 t11_3) 12 t12_4) 13 t12_4) 14 t14_5) 15 t15_6) 16 t16_7) 17 t17_8) 6 (.int .i64 0)) H) (fun Q24 => Q24 .normal (upd (upd (upd (upd (upd (upd
  (upd (upd (upd (upd (upd (upd (Env.get [a0, a1, a2]) 6 (.int .i64 0)) 7 a0) 8 t8_1) 9 t8_1) 10 t10_2) 11 t11_3) 12 t12_4) 13 t12_4) 14 t14_5) 15 t15_6) 16 t16_7) 17
  t17_8) H) Q9
theorem h37 (S : Sys) (a0 a1 a2 : Value) (H : Heap) (R : Kv) : wpC S k37.body (Env.get [a0, a1, a2]) H (fn [(.t 6)] R) = s37 S a0 a1 a2 H R := by kernel_rfl
theorem w37 {S : Sys} (hR : S.R 37 = none) (hF : S.F 37 = some k37) (a0 a1 a2 : Value) {H : Heap} {R : Kv} (h : s37 S a0 a1 a2 H R) : Wf S 37 [a0, a1, a2] H R := Wf_sh
  hR hF ((h37 S a0 a1 a2 H R).mpr h)
def s8 (S : Sys) (a0 a1 a2 : Value) (H : Heap) (R : Kv) : Prop := run S (.call 24 []) [] H fun t11_1 H => run S (.un .not (.c t11_1)) [] H fun t12_2 H => jn (sq (fun e4
  H => run S (.mx (.c (e4 0)) [(.c (.int .i64 0))]) [] H fun t14_5 H => run S (.mn (.c t14_5) [(.c (.int .i64 1099511627776))]) [] H fun t15_6 H => run S (.mx (.c (e4
  1)) [(.c (.int .i64 0))]) [] H fun t17_7 H => run S (.mn (.c t17_7) [(.c (.int .i64 1099511627776))]) [] H fun t18_8 H => run S (.mx (.c (e4 2)) [(.c (.int .i64 0))])
  [] H fun t20_9 H => run S (.mn (.c t20_9) [(.c (.int .i64 1099511627776))]) [] H fun t21_10 H => run S (.call 38 [(.c (e4 0)), (.c (e4 1)), (.c (e4 2))]) [] H fun
  t25_11 H => run S (.bin .gtr (.c t21_10) (.c (.int .i64 0))) [] H fun t27_12 H => gd t27_12 true (run S (.mv (.c t15_6)) [] H) H fun t29_13 H => gd t27_12 true (run S
  (.mv (.c t18_8)) [] H) H fun t30_14 H => gd t27_12 true (run S (.bin .sub (.c t29_13) (.c t30_14)) [] H) H fun t31_15 H => gd t27_12 true (run S (.mv (.c t21_10)) []
  H) H fun t32_16 H => gd t27_12 true (run S (.bin .geq (.c t31_15) (.c t32_16)) [] H) H fun t33_17 H => run S (.pick (.c t27_12) (.c t33_17) (.c (.bool false))) [] H
  fun t34_18 H => run S (.eqv (.s .bool) false (.c t25_11) (.c t34_18)) [] H fun t35_19 H => gd t35_19 true (run S (.mv (.c (.pointer none))) [] H) H fun t37_20 H => gd
  t35_19 true (run S (.call 30 [(.c t37_20)]) [] H) H fun t38_21 H => gd t35_19 true (run S (.bin .eql (.c t38_21) (.c (.int .i64 0))) [] H) H fun t39_22 H => run S
  (.pick (.c t35_19) (.c t39_22) (.c (.bool false))) [] H fun t40_23 H => gd t40_23 true (run S (.mv (.c (.pointer none))) [] H) H fun t42_24 H => gd t40_23 true (run S
  (.mv (.c (e4 0))) [] H) H fun t43_25 H => gd t40_23 true (run S (.call 26 [(.c t42_24), (.c (.int .i64 1)), (.c t43_25)]) [] H) H fun t44_26 H => gd t40_23 true (run S
  (.un .not (.c t44_26)) [] H) H fun t45_27 H => run S (.pick (.c t40_23) (.c t45_27) (.c (.bool false))) [] H fun t46_28 H => gd t46_28 true (run S (.mv (.c (.pointer
  none))) [] H) H fun t48_29 H => gd t46_28 true (run S (.mv (.c (e4 1))) [] H) H fun t49_30 H => gd t46_28 true (run S (.call 27 [(.c t48_29), (.c (.int .i64 1)), (.c
  t49_30)]) [] H) H fun t50_31 H => gd t46_28 true (run S (.bin .eql (.c t50_31) (.c (.int .i64 0))) [] H) H fun t51_32 H => run S (.pick (.c t46_28) (.c t51_32) (.c
  (.bool false))) [] H fun t52_33 H => gd t52_33 true (run S (.mv (.c (.pointer none))) [] H) H fun t54_34 H => gd t52_33 true (run S (.call 31 [(.c t54_34)]) [] H) H
  fun t55_35 H => gd t52_33 true (run S (.bin .eql (.c t55_35) (.c (.int .i64 0))) [] H) H fun t56_36 H => run S (.pick (.c t52_33) (.c t56_36) (.c (.bool false))) [] H
  fun t57_37 H => gd t57_37 true (run S (.mv (.c (.pointer none))) [] H) H fun t59_38 H => gd t57_37 true (run S (.call 32 [(.c t59_38)]) [] H) H fun t60_39 H => gd
  t57_37 true (run S (.bin .eql (.c t60_39) (.c (.int .i64 0))) [] H) H fun t61_40 H => run S (.pick (.c t57_37) (.c t61_40) (.c (.bool false))) [] H fun t62_41 H => gd
  t62_41 true (run S (.mv (.c (.pointer none))) [] H) H fun t64_42 H => gd t62_41 true (run S (.mv (.c (e4 2))) [] H) H fun t65_43 H => gd t62_41 true (run S (.call 34
  [(.c t64_42), (.c t65_43)]) [] H) H fun t66_44 H => gd t62_41 true (run S (.lenL (.c t66_44)) [] H) H fun t67_45 H => gd t62_41 true (run S (.bin .eql (.c t67_45) (.c
  (.int .i64 0))) [] H) H fun t68_46 H => run S (.pick (.c t62_41) (.c t68_46) (.c (.bool false))) [] H fun t69_47 H => R t69_47 H) (fn [(.t 6)] R)) fun Q3 => cnd t12_2
  (fun Q48 => Q48 .ret (upd (upd (upd (upd (Env.get [a0, a1, a2]) 6 (.bool false)) 11 t11_1) 12 t12_2) 6 (.bool false)) H) (fun Q49 => Q49 .normal (upd (upd (upd
  (Env.get [a0, a1, a2]) 6 (.bool false)) 11 t11_1) 12 t12_2) H) Q3
theorem h8 (S : Sys) (a0 a1 a2 : Value) (H : Heap) (R : Kv) : wpC S k8.body (Env.get [a0, a1, a2]) H (fn [(.t 6)] R) = s8 S a0 a1 a2 H R := by kernel_rfl
theorem w8 {S : Sys} (hR : S.R 8 = none) (hF : S.F 8 = some k8) (a0 a1 a2 : Value) {H : Heap} {R : Kv} (h : s8 S a0 a1 a2 H R) : Wf S 8 [a0, a1, a2] H R := Wf_sh hR hF
  ((h8 S a0 a1 a2 H R).mpr h)
def s30 (S : Sys) (a0 : Value) (H : Heap) (R : Kv) : Prop := run S (.eqv .ptr false (.c a0) (.c (.pointer none))) [] H fun t4_1 H => jn (sq (fun e3 H => run S (.nck (.c
  (e3 0))) [] H fun t6_4 H => run S (.fad 0 (.c t6_4)) [] H fun t7_5 H => run S (.ld (.c t7_5)) [] H fun t8_6 H => run S (.lenL (.c t8_6)) [] H fun t9_7 H => R t9_7 H)
  (fn [(.t 2)] R)) fun Q2 => cnd t4_1 (fun Q8 => Q8 .ret (upd (upd (upd (upd (Env.get [a0]) 2 (.int .i64 0)) 3 a0) 4 t4_1) 2 (.int .i64 0)) H) (fun Q9 => Q9 .normal (upd
  (upd (upd (Env.get [a0]) 2 (.int .i64 0)) 3 a0) 4 t4_1) H) Q2
theorem h30 (S : Sys) (a0 : Value) (H : Heap) (R : Kv) : wpC S k30.body (Env.get [a0]) H (fn [(.t 2)] R) = s30 S a0 H R := by kernel_rfl
theorem w30 {S : Sys} (hR : S.R 30 = none) (hF : S.F 30 = some k30) (a0 : Value) {H : Heap} {R : Kv} (h : s30 S a0 H R) : Wf S 30 [a0] H R := Wf_sh hR hF ((h30 S a0 H
  R).mpr h)
def s62 (S : Sys) (a0 a1 : Value) (H : Heap) (R : Kv) : Prop := run S (.bin .geq (.c a1) (.c (.int .i64 1))) [] H fun t6_1 H => gd t6_1 true (run S (.mv (.c a1)) [] H) H
  fun t8_2 H => gd t6_1 true (run S (.mv (.c a0)) [] H) H fun t9_3 H => gd t6_1 true (run S (.call 30 [(.c t9_3)]) [] H) H fun t10_4 H => gd t6_1 true (run S (.bin .leq
  (.c t8_2) (.c t10_4)) [] H) H fun t11_5 H => run S (.pick (.c t6_1) (.c t11_5) (.c (.bool false))) [] H fun t12_6 H => R t12_6 H
theorem h62 (S : Sys) (a0 a1 : Value) (H : Heap) (R : Kv) : wpC S k62.body (Env.get [a0, a1]) H (fn [(.t 4)] R) = s62 S a0 a1 H R := by kernel_rfl
theorem w62 {S : Sys} (hR : S.R 62 = none) (hF : S.F 62 = some k62) (a0 a1 : Value) {H : Heap} {R : Kv} (h : s62 S a0 a1 H R) : Wf S 62 [a0, a1] H R := Wf_sh hR hF ((h62
  S a0 a1 H R).mpr h)
def s26 (S : Sys) (a0 a1 a2 : Value) (H : Heap) (R : Kv) : Prop := run S (.call 62 [(.c a0), (.c a1)]) [] H fun t9_1 H => run S (.un .not (.c t9_1)) [] H fun t10_2 H =>
  gd t10_2 false (run S (.mv (.c a2)) [] H) H fun t12_3 H => gd t10_2 false (run S (.bin .lss (.c t12_3) (.c (.int .i64 0))) [] H) H fun t13_4 H => run S (.pick (.c
  t10_2) (.c (.bool true)) (.c t13_4)) [] H fun t14_5 H => gd t14_5 false (run S (.mv (.c a2)) [] H) H fun t16_6 H => gd t14_5 false (run S (.bin .gtr (.c t16_6) (.c
  (.int .i64 400))) [] H) H fun t17_7 H => run S (.pick (.c t14_5) (.c (.bool true)) (.c t17_7)) [] H fun t18_8 H => jn (sq (fun e10 H => run S (.nck (.c (e10 0))) [] H
  fun t20_11 H => run S (.fad 0 (.c t20_11)) [] H fun t21_12 H => run S (.ld (.c t21_12)) [] H fun t22_13 H => run S (.bin .sub (.c (e10 1)) (.c (.int .i64 1))) [] H fun
  t24_14 H => run S (.iad 1 (.c t22_13) (.c t24_14)) [] H fun t26_15 H => run S (.st (.c t26_15) (.c (e10 2))) [] H fun _ H => R (.bool true) H) (fn [(.t 6)] R)) fun Q9
  => cnd t18_8 (fun Q16 => Q16 .ret (upd (upd (upd (upd (upd (upd (upd (upd (upd (upd (upd (upd (upd (upd (Env.get [a0, a1, a2]) 6 (.bool false)) 7 a0) 8 a1) 9 t9_1) 10
  t10_2) 11 t10_2) 12 t12_3) 13 t13_4) 14 t14_5) 15 t14_5) 16 t16_6) 17 t17_7) 18 t18_8) 6 (.bool false)) H) (fun Q17 => Q17 .normal (upd (upd (upd (upd (upd (upd (upd
  (upd (upd (upd (upd (upd (upd (Env.get [a0, a1, a2]) 6 (.bool false)) 7 a0) 8 a1) 9 t9_1) 10 t10_2) 11 t10_2) 12 t12_3) 13 t13_4) 14 t14_5) 15 t14_5) 16 t16_6) 17
  t17_7) 18 t18_8) H) Q9
theorem h26 (S : Sys) (a0 a1 a2 : Value) (H : Heap) (R : Kv) : wpC S k26.body (Env.get [a0, a1, a2]) H (fn [(.t 6)] R) = s26 S a0 a1 a2 H R := by kernel_rfl
theorem w26 {S : Sys} (hR : S.R 26 = none) (hF : S.F 26 = some k26) (a0 a1 a2 : Value) {H : Heap} {R : Kv} (h : s26 S a0 a1 a2 H R) : Wf S 26 [a0, a1, a2] H R := Wf_sh
  hR hF ((h26 S a0 a1 a2 H R).mpr h)
def s27 (S : Sys) (a0 a1 a2 : Value) (H : Heap) (R : Kv) : Prop := run S (.call 62 [(.c a0), (.c a1)]) [] H fun t9_1 H => run S (.un .not (.c t9_1)) [] H fun t10_2 H =>
  gd t10_2 false (run S (.mv (.c a2)) [] H) H fun t12_3 H => gd t10_2 false (run S (.bin .lss (.c t12_3) (.c (.int .i64 0))) [] H) H fun t13_4 H => run S (.pick (.c
  t10_2) (.c (.bool true)) (.c t13_4)) [] H fun t14_5 H => jn (sq (fun e7 H => run S (.call 29 [(.c (e7 0)), (.c (e7 1))]) [] H fun t18_8 H => run S (.bin .sub (.c (e7
  2)) (.c t18_8)) [] H fun t19_9 H => run S (.mx (.c t19_9) [(.c (.int .i64 0))]) [] H fun t20_10 H => R t20_10 H) (fn [(.t 6)] R)) fun Q6 => cnd t14_5 (fun Q11 => Q11
  .ret (upd (upd (upd (upd (upd (upd (upd (upd (upd (upd (Env.get [a0, a1, a2]) 6 (.int .i64 0)) 7 a0) 8 a1) 9 t9_1) 10 t10_2) 11 t10_2) 12 t12_3) 13 t13_4) 14 t14_5) 6
  (.int .i64 0)) H) (fun Q12 => Q12 .normal (upd (upd (upd (upd (upd (upd (upd (upd (upd (Env.get [a0, a1, a2]) 6 (.int .i64 0)) 7 a0) 8 a1) 9 t9_1) 10 t10_2) 11 t10_2)
  12 t12_3) 13 t13_4) 14 t14_5) H) Q6
theorem h27 (S : Sys) (a0 a1 a2 : Value) (H : Heap) (R : Kv) : wpC S k27.body (Env.get [a0, a1, a2]) H (fn [(.t 6)] R) = s27 S a0 a1 a2 H R := by kernel_rfl
theorem w27 {S : Sys} (hR : S.R 27 = none) (hF : S.F 27 = some k27) (a0 a1 a2 : Value) {H : Heap} {R : Kv} (h : s27 S a0 a1 a2 H R) : Wf S 27 [a0, a1, a2] H R := Wf_sh
  hR hF ((h27 S a0 a1 a2 H R).mpr h)
def s31 (S : Sys) (a0 : Value) (H : Heap) (R : Kv) : Prop := run S (.call 30 [(.c a0)]) [] H fun t4_1 H => run S (.bin .eql (.c t4_1) (.c (.int .i64 0))) [] H fun t5_2 H
  => jn (sq (fun e4 H => run S (.nck (.c (e4 0))) [] H fun t7_5 H => run S (.fad 0 (.c t7_5)) [] H fun t8_6 H => run S (.ld (.c t8_6)) [] H fun t9_7 H => run S (.call 63
  [(.c t9_7)]) [] H fun t10_8 H => R t10_8 H) (fn [(.t 2)] R)) fun Q3 => cnd t5_2 (fun Q9 => Q9 .ret (upd (upd (upd (upd (upd (Env.get [a0]) 2 (.int .i64 0)) 3 a0) 4
  t4_1) 5 t5_2) 2 (.int .i64 0)) H) (fun Q10 => Q10 .normal (upd (upd (upd (upd (Env.get [a0]) 2 (.int .i64 0)) 3 a0) 4 t4_1) 5 t5_2) H) Q3
theorem h31 (S : Sys) (a0 : Value) (H : Heap) (R : Kv) : wpC S k31.body (Env.get [a0]) H (fn [(.t 2)] R) = s31 S a0 H R := by kernel_rfl
theorem w31 {S : Sys} (hR : S.R 31 = none) (hF : S.F 31 = some k31) (a0 : Value) {H : Heap} {R : Kv} (h : s31 S a0 H R) : Wf S 31 [a0] H R := Wf_sh hR hF ((h31 S a0 H
  R).mpr h)
def s32 (S : Sys) (a0 : Value) (H : Heap) (R : Kv) : Prop := run S (.call 30 [(.c a0)]) [] H fun t4_1 H => run S (.bin .eql (.c t4_1) (.c (.int .i64 0))) [] H fun t5_2 H
  => jn (sq (fun e4 H => run S (.nck (.c (e4 0))) [] H fun t7_5 H => run S (.fad 0 (.c t7_5)) [] H fun t8_6 H => run S (.ld (.c t8_6)) [] H fun t9_7 H => run S (.call 64
  [(.c t9_7)]) [] H fun t10_8 H => R t10_8 H) (fn [(.t 2)] R)) fun Q3 => cnd t5_2 (fun Q9 => Q9 .ret (upd (upd (upd (upd (upd (Env.get [a0]) 2 (.int .i64 0)) 3 a0) 4
  t4_1) 5 t5_2) 2 (.int .i64 0)) H) (fun Q10 => Q10 .normal (upd (upd (upd (upd (Env.get [a0]) 2 (.int .i64 0)) 3 a0) 4 t4_1) 5 t5_2) H) Q3
theorem h32 (S : Sys) (a0 : Value) (H : Heap) (R : Kv) : wpC S k32.body (Env.get [a0]) H (fn [(.t 2)] R) = s32 S a0 H R := by kernel_rfl
theorem w32 {S : Sys} (hR : S.R 32 = none) (hF : S.F 32 = some k32) (a0 : Value) {H : Heap} {R : Kv} (h : s32 S a0 H R) : Wf S 32 [a0] H R := Wf_sh hR hF ((h32 S a0 H
  R).mpr h)
def s38 (S : Sys) (a0 a1 a2 : Value) (H : Heap) (R : Kv) : Prop := run S (.bin .leq (.c a2) (.c (.int .i64 0))) [] H fun t9_1 H => jn (sq (fun e3 H => run S (.callv (.c
  (.func (.func 68) ([]).toArray ([]).toArray)) [(.c (e3 0))]) [] H fun t12_4 H => run S (.callv (.c (.func (.func 68) ([]).toArray ([]).toArray)) [(.c (e3 1))]) [] H
  fun t15_5 H => run S (.callv (.c (.func (.func 68) ([]).toArray ([]).toArray)) [(.c (e3 2))]) [] H fun t18_6 H => run S (.bin .add (.c t15_5) (.c t18_6)) [] H fun
  t19_7 H => run S (.bin .geq (.c t12_4) (.c t19_7)) [] H fun t20_8 H => R t20_8 H) (fn [(.t 6)] R)) fun Q2 => cnd t9_1 (fun Q9 => Q9 .ret (upd (upd (upd (upd (Env.get
  [a0, a1, a2]) 6 (.bool false)) 8 a2) 9 t9_1) 6 (.bool false)) H) (fun Q10 => Q10 .normal (upd (upd (upd (Env.get [a0, a1, a2]) 6 (.bool false)) 8 a2) 9 t9_1) H) Q2
theorem h38 (S : Sys) (a0 a1 a2 : Value) (H : Heap) (R : Kv) : wpC S k38.body (Env.get [a0, a1, a2]) H (fn [(.t 6)] R) = s38 S a0 a1 a2 H R := by kernel_rfl
theorem w38 {S : Sys} (hR : S.R 38 = none) (hF : S.F 38 = some k38) (a0 a1 a2 : Value) {H : Heap} {R : Kv} (h : s38 S a0 a1 a2 H R) : Wf S 38 [a0, a1, a2] H R := Wf_sh
  hR hF ((h38 S a0 a1 a2 H R).mpr h)
def s68 (S : Sys) (a0 : Value) (H : Heap) (R : Kv) : Prop := run S (.mx (.c a0) [(.c (.int .i64 0))]) [] H fun t4_1 H => run S (.mn (.c t4_1) [(.c (.int .i64
  1099511627776))]) [] H fun t5_2 H => R t5_2 H
theorem h68 (S : Sys) (a0 : Value) (H : Heap) (R : Kv) : wpC S k68.body (Env.get [a0]) H (fn [(.t 2)] R) = s68 S a0 H R := by kernel_rfl
theorem w68 {S : Sys} (hR : S.R 68 = none) (hF : S.F 68 = some k68) (a0 : Value) {H : Heap} {R : Kv} (h : s68 S a0 H R) : Wf S 68 [a0] H R := Wf_sh hR hF ((h68 S a0 H
  R).mpr h)
def b34_0 : KCode := (.seq (.reg [(.op (some 10) none (.bin .lss (.t 9) (.t 8)))]) (.seq (.cond (.t 10) .skip (.exit 0)) (.seq (.block 1 (.seq (.reg [(.op (some 11) none
  (.mv (.t 9))), (.op (some 6) none (.mv (.t 11)))]) (.seq (.reg [(.op (some 12) none (.ld (.t 2))), (.op (some 13) none (.mv (.t 6))), (.op (some 14) none (.bin .add
  (.t 13) (.c (.int .i64 1)))), (.op (some 15) none (.ld (.t 3))), (.op (some 16) none (.call 27 [(.t 12), (.t 14), (.t 15)])), (.op (some 17) none (.bin .gtr (.t 16)
  (.c (.int .i64 0))))]) (.cond (.t 17) (.reg [(.op (some 18) none (.mv (.t 5))), (.op (some 19) none (.mv (.t 6))), (.op (some 20) none (.bin .add (.t 19) (.c (.int
  .i64 1)))), (.op (some 21) none (.bsl 3 1 [(.int .i64 0)] [(0, (1, (.t 20)))])), (.op (some 22) none (.app 3 1 8 (.t 18) (.t 21))), (.op (some 5) none (.mv (.t 22)))])
  .skip)))) (.reg [(.op (some 23) none (.bin .add (.t 9) (.c (.int .i64 1)))), (.op (some 9) none (.mv (.t 23)))]))))
def s34_0 (S : Sys) (e : Fe) (H : Heap) (Q : Kx) : Prop := run S (.bin .lss (.c (e 9)) (.c (e 8))) [] H fun t10_10 H => jn (sq (fun e12 H => jn (sq (fun e14 H => run S
  (.bin .add (.c (e14 9)) (.c (.int .i64 1))) [] H fun t23_15 H => Q .normal (upd (upd e14 23 t23_15) 9 t23_15) H) Q) fun Q13 => run S (.ld (.c (e12 2))) [] H fun t12_16
  H => run S (.bin .add (.c (e12 9)) (.c (.int .i64 1))) [] H fun t14_17 H => run S (.ld (.c (e12 3))) [] H fun t15_18 H => run S (.call 27 [(.c t12_16), (.c t14_17),
  (.c t15_18)]) [] H fun t16_19 H => run S (.bin .gtr (.c t16_19) (.c (.int .i64 0))) [] H fun t17_20 H => jn (blk 1 Q13) fun Q21 => cnd t17_20 (fun Q22 => run S (.bin
  .add (.c (e12 9)) (.c (.int .i64 1))) [] H fun t20_24 H => run S (.bsl 3 1 [(.int .i64 0)] [(0, (1, (.c t20_24)))]) [] H fun t21_25 H => run S (.app 3 1 8 (.c (e12 5))
  (.c t21_25)) [] H fun t22_26 H => Q22 .normal (upd (upd (upd (upd (upd (upd (upd (upd (upd (upd (upd (upd (upd (upd e12 11 (e12 9)) 6 (e12 9)) 12 t12_16) 13 (e12 9))
  14 t14_17) 15 t15_18) 16 t16_19) 17 t17_20) 18 (e12 5)) 19 (e12 9)) 20 t20_24) 21 t21_25) 22 t22_26) 5 t22_26) H) (fun Q23 => Q23 .normal (upd (upd (upd (upd (upd (upd
  (upd (upd e12 11 (e12 9)) 6 (e12 9)) 12 t12_16) 13 (e12 9)) 14 t14_17) 15 t15_18) 16 t16_19) 17 t17_20) H) Q21) Q) fun Q11 => cnd t10_10 (fun Q27 => Q27 .normal (upd e
  10 t10_10) H) (fun Q28 => Q28 (.exit 0) (upd e 10 t10_10) H) Q11
theorem h34_0 (S : Sys) (e : Fe) (H : Heap) (Q : Kx) : wpC S b34_0 e H Q = s34_0 S e H Q := by kernel_rfl
theorem l34_0 (S : Sys) {Q : Kx} (I : Nat → Fe → Heap → Prop) (d : Nat) {e0 : Fe} {H : Heap} (h0 : I d e0 H) (hr : ∀ (d : Nat) (e : Fe) (H : Heap), I d e H → s34_0 S e H
  (sq (fun e' H' => ∃ d', d' < d ∧ I d' e' H') Q)) : WL S b34_0 e0 H Q := WL_inv I d h0 fun d e H hi => (h34_0 S e H _).mpr (hr d e H hi)
theorem u34_0 (S : Sys) {Q : Kx} {e : Fe} {H : Heap} (h : s34_0 S e H (sq (fun e' H' => WL S b34_0 e' H' Q) Q)) : WL S b34_0 e H Q := WL_once ((h34_0 S e H _).mpr h)
def s34 (S : Sys) (a0 a1 : Value) (H : Heap) (R : Kv) : Prop := run S (.box 48 (.c a0)) [] H fun t2_1 H => run S (.box 3 (.c a1)) [] H fun t3_2 H => run S (.ld (.c
  t2_1)) [] H fun t7_3 H => run S (.call 30 [(.c t7_3)]) [] H fun t8_4 H => jn (sq (fun e6 H => run S (.mkf (.func 66) [] [(.c (e6 2)), (.c (e6 3))]) [] H fun t25_7 H =>
  run S (.call 65 [(.c (e6 5)), (.c t25_7)]) [] H fun t26_8 H => R (e6 5) H) (fn [(.t 4)] R)) fun Q5 => jn (blk 0 Q5) fun Q9 => WL S b34_0 (upd (upd (upd (upd (upd (upd
  (upd (Env.get [a0, a1]) 2 t2_1) 3 t3_2) 4 (.slice none 0 0)) 5 (.slice none 0 0)) 7 t7_3) 8 t8_4) 9 (.int .i64 0)) H Q9
theorem h34 (S : Sys) (a0 a1 : Value) (H : Heap) (R : Kv) : wpC S k34.body (Env.get [a0, a1]) H (fn [(.t 4)] R) = s34 S a0 a1 H R := by kernel_rfl
theorem w34 {S : Sys} (hR : S.R 34 = none) (hF : S.F 34 = some k34) (a0 a1 : Value) {H : Heap} {R : Kv} (h : s34 S a0 a1 H R) : Wf S 34 [a0, a1] H R := Wf_sh hR hF ((h34
  S a0 a1 H R).mpr h)
def s65 (S : Sys) (a0 a1 : Value) (H : Heap) (R : Kv) : Prop := run S (.lenL (.c a0)) [] H fun t6_1 H => run S (.call 89 [(.c a0), (.c t6_1), (.c a1)]) [] H fun t8_2 H
  => R (tup []) H
theorem h65 (S : Sys) (a0 a1 : Value) (H : Heap) (R : Kv) : wpC S k65.body (Env.get [a0, a1]) H (fn [] R) = s65 S a0 a1 H R := by kernel_rfl
theorem w65 {S : Sys} (hR : S.R 65 = none) (hF : S.F 65 = some k65) (a0 a1 : Value) {H : Heap} {R : Kv} (h : s65 S a0 a1 H R) : Wf S 65 [a0, a1] H R := Wf_sh hR hF ((h65
  S a0 a1 H R).mpr h)
def b89_2 : KCode := (.seq (.seq (.reg [(.op (some 33) none (.mv (.t 8))), (.op (some 34) none (.mv (.t 1))), (.op (some 35) none (.bin .leq (.t 33) (.t 34)))]) (.cond
  (.t 35) .skip (.exit 4))) (.block 5 (.seq (.reg [(.op (some 36) none (.mv (.t 0))), (.op (some 37) none (.mv (.t 7))), (.op (some 38) none (.mv (.t 7))), (.op (some
  39) none (.mv (.t 6))), (.op (some 40) none (.bin .add (.t 38) (.t 39))), (.op (some 41) none (.mv (.t 8))), (.op (some 42) none (.mv (.t 2))), (.op (some 43) none
  (.call 102 [(.t 36), (.t 37), (.t 40), (.t 41), (.t 42)]))]) (.seq (.reg [(.op (some 44) none (.mv (.t 8))), (.op (some 7) none (.mv (.t 44)))]) (.reg [(.op (some 45)
  none (.mv (.t 8))), (.op (some 46) none (.mv (.t 6))), (.op (some 47) none (.bin .mul (.c (.int .i64 2)) (.t 46))), (.op (some 48) none (.bin .add (.t 45) (.t 47))),
  (.op (some 8) none (.mv (.t 48)))])))))
def s89_2 (S : Sys) (e : Fe) (H : Heap) (Q : Kx) : Prop := run S (.bin .leq (.c (e 8)) (.c (e 1))) [] H fun t35_31 H => jn (sq (fun e33 H => run S (.bin .add (.c (e33
  7)) (.c (e33 6))) [] H fun t40_34 H => run S (.call 102 [(.c (e33 0)), (.c (e33 7)), (.c t40_34), (.c (e33 8)), (.c (e33 2))]) [] H fun t43_35 H => run S (.bin .mul
  (.c (.int .i64 2)) (.c (e33 6))) [] H fun t47_36 H => run S (.bin .add (.c (e33 8)) (.c t47_36)) [] H fun t48_37 H => Q .normal (upd (upd (upd (upd (upd (upd (upd (upd
  (upd (upd (upd (upd (upd (upd (upd e33 36 (e33 0)) 37 (e33 7)) 38 (e33 7)) 39 (e33 6)) 40 t40_34) 41 (e33 8)) 42 (e33 2)) 43 t43_35) 44 (e33 8)) 7 (e33 8)) 45 (e33 8))
  46 (e33 6)) 47 t47_36) 48 t48_37) 8 t48_37) H) Q) fun Q32 => cnd t35_31 (fun Q38 => Q38 .normal (upd (upd (upd e 33 (e 8)) 34 (e 1)) 35 t35_31) H) (fun Q39 => Q39
  (.exit 4) (upd (upd (upd e 33 (e 8)) 34 (e 1)) 35 t35_31) H) Q32
theorem h89_2 (S : Sys) (e : Fe) (H : Heap) (Q : Kx) : wpC S b89_2 e H Q = s89_2 S e H Q := by kernel_rfl
theorem l89_2 (S : Sys) {Q : Kx} (I : Nat → Fe → Heap → Prop) (d : Nat) {e0 : Fe} {H : Heap} (h0 : I d e0 H) (hr : ∀ (d : Nat) (e : Fe) (H : Heap), I d e H → s89_2 S e H
  (sq (fun e' H' => ∃ d', d' < d ∧ I d' e' H') Q)) : WL S b89_2 e0 H Q := WL_inv I d h0 fun d e H hi => (h89_2 S e H _).mpr (hr d e H hi)
theorem u89_2 (S : Sys) {Q : Kx} {e : Fe} {H : Heap} (h : s89_2 S e H (sq (fun e' H' => WL S b89_2 e' H' Q) Q)) : WL S b89_2 e H Q := WL_once ((h89_2 S e H _).mpr h)
def b89_1 : KCode := (.seq (.seq (.reg [(.op (some 11) none (.mv (.t 8))), (.op (some 12) none (.mv (.t 1))), (.op (some 13) none (.bin .leq (.t 11) (.t 12)))]) (.cond
  (.t 13) .skip (.exit 0))) (.block 1 (.seq (.reg [(.op (some 14) none (.mv (.t 0))), (.op (some 15) none (.mv (.t 7))), (.op (some 16) none (.mv (.t 8))), (.op (some
  17) none (.mv (.t 2))), (.op (some 18) none (.call 101 [(.t 14), (.t 15), (.t 16), (.t 17)]))]) (.seq (.reg [(.op (some 19) none (.mv (.t 8))), (.op (some 7) none (.mv
  (.t 19)))]) (.reg [(.op (some 20) none (.mv (.t 8))), (.op (some 21) none (.mv (.t 6))), (.op (some 22) none (.bin .add (.t 20) (.t 21))), (.op (some 8) none (.mv (.t
  22)))])))))
def s89_1 (S : Sys) (e : Fe) (H : Heap) (Q : Kx) : Prop := run S (.bin .leq (.c (e 8)) (.c (e 1))) [] H fun t13_24 H => jn (sq (fun e26 H => run S (.call 101 [(.c (e26
  0)), (.c (e26 7)), (.c (e26 8)), (.c (e26 2))]) [] H fun t18_27 H => run S (.bin .add (.c (e26 8)) (.c (e26 6))) [] H fun t22_28 H => Q .normal (upd (upd (upd (upd
  (upd (upd (upd (upd (upd (upd (upd e26 14 (e26 0)) 15 (e26 7)) 16 (e26 8)) 17 (e26 2)) 18 t18_27) 19 (e26 8)) 7 (e26 8)) 20 (e26 8)) 21 (e26 6)) 22 t22_28) 8 t22_28)
  H) Q) fun Q25 => cnd t13_24 (fun Q29 => Q29 .normal (upd (upd (upd e 11 (e 8)) 12 (e 1)) 13 t13_24) H) (fun Q30 => Q30 (.exit 0) (upd (upd (upd e 11 (e 8)) 12 (e 1))
  13 t13_24) H) Q25
theorem h89_1 (S : Sys) (e : Fe) (H : Heap) (Q : Kx) : wpC S b89_1 e H Q = s89_1 S e H Q := by kernel_rfl
theorem l89_1 (S : Sys) {Q : Kx} (I : Nat → Fe → Heap → Prop) (d : Nat) {e0 : Fe} {H : Heap} (h0 : I d e0 H) (hr : ∀ (d : Nat) (e : Fe) (H : Heap), I d e H → s89_1 S e H
  (sq (fun e' H' => ∃ d', d' < d ∧ I d' e' H') Q)) : WL S b89_1 e0 H Q := WL_inv I d h0 fun d e H hi => (h89_1 S e H _).mpr (hr d e H hi)
theorem u89_1 (S : Sys) {Q : Kx} {e : Fe} {H : Heap} (h : s89_1 S e H (sq (fun e' H' => WL S b89_1 e' H' Q) Q)) : WL S b89_1 e H Q := WL_once ((h89_1 S e H _).mpr h)
def b89_0 : KCode := (.seq (.seq (.reg [(.op (some 28) none (.mv (.t 6))), (.op (some 29) none (.mv (.t 1))), (.op (some 30) none (.bin .lss (.t 28) (.t 29)))]) (.cond
  (.t 30) .skip (.exit 2))) (.block 3 (.seq (.reg [(.op (some 31) none (.mv (.t 6))), (.op (some 32) none (.bin .mul (.c (.int .i64 2)) (.t 31))), (.op (some 7) none
  (.mv (.c (.int .i64 0)))), (.op (some 8) none (.mv (.t 32)))]) (.seq (.block 4 (.loop (.seq (.seq (.reg [(.op (some 33) none (.mv (.t 8))), (.op (some 34) none (.mv
  (.t 1))), (.op (some 35) none (.bin .leq (.t 33) (.t 34)))]) (.cond (.t 35) .skip (.exit 4))) (.block 5 (.seq (.reg [(.op (some 36) none (.mv (.t 0))), (.op (some 37)
  none (.mv (.t 7))), (.op (some 38) none (.mv (.t 7))), (.op (some 39) none (.mv (.t 6))), (.op (some 40) none (.bin .add (.t 38) (.t 39))), (.op (some 41) none (.mv
  (.t 8))), (.op (some 42) none (.mv (.t 2))), (.op (some 43) none (.call 102 [(.t 36), (.t 37), (.t 40), (.t 41), (.t 42)]))]) (.seq (.reg [(.op (some 44) none (.mv (.t
  8))), (.op (some 7) none (.mv (.t 44)))]) (.reg [(.op (some 45) none (.mv (.t 8))), (.op (some 46) none (.mv (.t 6))), (.op (some 47) none (.bin .mul (.c (.int .i64
  2)) (.t 46))), (.op (some 48) none (.bin .add (.t 45) (.t 47))), (.op (some 8) none (.mv (.t 48)))]))))))) (.seq (.seq (.reg [(.op (some 49) none (.mv (.t 7))), (.op
  (some 50) none (.mv (.t 6))), (.op (some 51) none (.bin .add (.t 49) (.t 50))), (.op (some 9) none (.mv (.t 51)))]) (.seq (.reg [(.op (some 52) none (.mv (.t 9))),
  (.op (some 53) none (.mv (.t 1))), (.op (some 54) none (.bin .lss (.t 52) (.t 53)))]) (.cond (.t 54) (.reg [(.op (some 55) none (.mv (.t 0))), (.op (some 56) none (.mv
  (.t 7))), (.op (some 57) none (.mv (.t 9))), (.op (some 58) none (.mv (.t 1))), (.op (some 59) none (.mv (.t 2))), (.op (some 60) none (.call 102 [(.t 55), (.t 56),
  (.t 57), (.t 58), (.t 59)]))]) .skip))) (.reg [(.op (some 61) none (.mv (.t 6))), (.op (some 62) none (.bin .mul (.t 61) (.c (.int .i64 2)))), (.op (some 6) none (.mv
  (.t 62)))]))))))
def s89_0 (S : Sys) (e : Fe) (H : Heap) (Q : Kx) : Prop := run S (.bin .lss (.c (e 6)) (.c (e 1))) [] H fun t30_6 H => jn (sq (fun e8 H => run S (.bin .mul (.c (.int
  .i64 2)) (.c (e8 6))) [] H fun t32_9 H => jn (blk 3 Q) fun Q10 => jn (sq (fun e12 H => run S (.bin .add (.c (e12 7)) (.c (e12 6))) [] H fun t51_13 H => run S (.bin
  .lss (.c t51_13) (.c (e12 1))) [] H fun t54_14 H => jn (sq (fun e16 H => run S (.bin .mul (.c (e16 6)) (.c (.int .i64 2))) [] H fun t62_17 H => Q10 .normal (upd (upd
  (upd e16 61 (e16 6)) 62 t62_17) 6 t62_17) H) Q10) fun Q15 => cnd t54_14 (fun Q18 => run S (.call 102 [(.c (e12 0)), (.c (e12 7)), (.c t51_13), (.c (e12 1)), (.c (e12
  2))]) [] H fun t60_20 H => Q18 .normal (upd (upd (upd (upd (upd (upd (upd (upd (upd (upd (upd (upd (upd e12 49 (e12 7)) 50 (e12 6)) 51 t51_13) 9 t51_13) 52 t51_13) 53
  (e12 1)) 54 t54_14) 55 (e12 0)) 56 (e12 7)) 57 t51_13) 58 (e12 1)) 59 (e12 2)) 60 t60_20) H) (fun Q19 => Q19 .normal (upd (upd (upd (upd (upd (upd (upd e12 49 (e12 7))
  50 (e12 6)) 51 t51_13) 9 t51_13) 52 t51_13) 53 (e12 1)) 54 t54_14) H) Q15) Q10) fun Q11 => jn (blk 4 Q11) fun Q21 => WL S b89_2 (upd (upd (upd (upd e8 31 (e8 6)) 32
  t32_9) 7 (.int .i64 0)) 8 t32_9) H Q21) Q) fun Q7 => cnd t30_6 (fun Q22 => Q22 .normal (upd (upd (upd e 28 (e 6)) 29 (e 1)) 30 t30_6) H) (fun Q23 => Q23 (.exit 2) (upd
  (upd (upd e 28 (e 6)) 29 (e 1)) 30 t30_6) H) Q7
theorem h89_0 (S : Sys) (e : Fe) (H : Heap) (Q : Kx) : wpC S b89_0 e H Q = s89_0 S e H Q := by kernel_rfl
theorem l89_0 (S : Sys) {Q : Kx} (I : Nat → Fe → Heap → Prop) (d : Nat) {e0 : Fe} {H : Heap} (h0 : I d e0 H) (hr : ∀ (d : Nat) (e : Fe) (H : Heap), I d e H → s89_0 S e H
  (sq (fun e' H' => ∃ d', d' < d ∧ I d' e' H') Q)) : WL S b89_0 e0 H Q := WL_inv I d h0 fun d e H hi => (h89_0 S e H _).mpr (hr d e H hi)
theorem u89_0 (S : Sys) {Q : Kx} {e : Fe} {H : Heap} (h : s89_0 S e H (sq (fun e' H' => WL S b89_0 e' H' Q) Q)) : WL S b89_0 e H Q := WL_once ((h89_0 S e H _).mpr h)
def s89 (S : Sys) (a0 a1 a2 : Value) (H : Heap) (R : Kv) : Prop := jn (sq (fun e2 H => run S (.call 101 [(.c (e2 0)), (.c (e2 7)), (.c (e2 1)), (.c (e2 2))]) [] H fun
  t27_3 H => jn (blk 2 (fn [] R)) fun Q4 => WL S b89_0 (upd (upd (upd (upd (upd e2 23 (e2 0)) 24 (e2 7)) 25 (e2 1)) 26 (e2 2)) 27 t27_3) H Q4) (fn [] R)) fun Q1 => jn
  (blk 0 Q1) fun Q5 => WL S b89_1 (upd (upd (upd (upd (Env.get [a0, a1, a2]) 6 (.int .i64 20)) 10 (.int .i64 20)) 7 (.int .i64 0)) 8 (.int .i64 20)) H Q5
theorem h89 (S : Sys) (a0 a1 a2 : Value) (H : Heap) (R : Kv) : wpC S k89.body (Env.get [a0, a1, a2]) H (fn [] R) = s89 S a0 a1 a2 H R := by kernel_rfl
theorem w89 {S : Sys} (hR : S.R 89 = none) (hF : S.F 89 = some k89) (a0 a1 a2 : Value) {H : Heap} {R : Kv} (h : s89 S a0 a1 a2 H R) : Wf S 89 [a0, a1, a2] H R := Wf_sh
  hR hF ((h89 S a0 a1 a2 H R).mpr h)
def b101_1 : KCode := (.seq (.seq (.reg [(.op (some 18) none (.mv (.t 9))), (.op (some 19) none (.mv (.t 1))), (.op (some 20) none (.bin .gtr (.t 18) (.t 19))), (.op
  (some 21) none (.mv (.t 20))), (.op (some 22) (some (21, true)) (.mv (.t 3))), (.op (some 23) (some (21, true)) (.mv (.t 0))), (.op (some 24) (some (21, true)) (.mv
  (.t 9))), (.op (some 25) (some (21, true)) (.iad 1 (.t 23) (.t 24))), (.op (some 26) (some (21, true)) (.ld (.t 25))), (.op (some 27) (some (21, true)) (.mv (.t 0))),
  (.op (some 28) (some (21, true)) (.mv (.t 9))), (.op (some 29) (some (21, true)) (.bin .sub (.t 28) (.c (.int .i64 1)))), (.op (some 30) (some (21, true)) (.iad 1 (.t
  27) (.t 29))), (.op (some 31) (some (21, true)) (.ld (.t 30))), (.op (some 32) (some (21, true)) (.callv (.t 22) [(.t 26), (.t 31)])), (.op (some 33) (some (21, true))
  (.bin .lss (.t 32) (.c (.int .i64 0)))), (.op (some 34) none (.pick (.t 21) (.t 33) (.c (.bool false))))]) (.cond (.t 34) .skip (.exit 2))) (.seq (.block 3 (.reg [(.op
  (some 37) none (.mv (.t 0))), (.op (some 38) none (.mv (.t 9))), (.op (some 39) none (.mv (.t 0))), (.op (some 40) none (.mv (.t 9))), (.op (some 41) none (.bin .sub
  (.t 40) (.c (.int .i64 1)))), (.op (some 42) none (.mv (.t 0))), (.op (some 43) none (.mv (.t 9))), (.op (some 44) none (.bin .sub (.t 43) (.c (.int .i64 1)))), (.op
  (some 45) none (.iad 1 (.t 42) (.t 44))), (.op (some 46) none (.ld (.t 45))), (.op (some 47) none (.mv (.t 0))), (.op (some 48) none (.mv (.t 9))), (.op (some 49) none
  (.iad 1 (.t 47) (.t 48))), (.op (some 50) none (.ld (.t 49))), (.op (some 51) none (.iad 1 (.t 37) (.t 38))), (.op none none (.st (.t 51) (.t 46))), (.op (some 52)
  none (.iad 1 (.t 39) (.t 41))), (.op none none (.st (.t 52) (.t 50)))])) (.reg [(.op (some 35) none (.mv (.t 9))), (.op (some 36) none (.bin .sub (.t 35) (.c (.int
  .i64 1)))), (.op (some 9) none (.mv (.t 36)))])))
def s101_1 (S : Sys) (e : Fe) (H : Heap) (Q : Kx) : Prop := run S (.bin .gtr (.c (e 9)) (.c (e 1))) [] H fun t20_13 H => gd t20_13 true (run S (.mv (.c (e 3))) [] H) H
  fun t22_14 H => gd t20_13 true (run S (.mv (.c (e 0))) [] H) H fun t23_15 H => gd t20_13 true (run S (.mv (.c (e 9))) [] H) H fun t24_16 H => gd t20_13 true (run S
  (.iad 1 (.c t23_15) (.c t24_16)) [] H) H fun t25_17 H => gd t20_13 true (run S (.ld (.c t25_17)) [] H) H fun t26_18 H => gd t20_13 true (run S (.mv (.c (e 0))) [] H) H
  fun t27_19 H => gd t20_13 true (run S (.mv (.c (e 9))) [] H) H fun t28_20 H => gd t20_13 true (run S (.bin .sub (.c t28_20) (.c (.int .i64 1))) [] H) H fun t29_21 H =>
  gd t20_13 true (run S (.iad 1 (.c t27_19) (.c t29_21)) [] H) H fun t30_22 H => gd t20_13 true (run S (.ld (.c t30_22)) [] H) H fun t31_23 H => gd t20_13 true (run S
  (.callv (.c t22_14) [(.c t26_18), (.c t31_23)]) [] H) H fun t32_24 H => gd t20_13 true (run S (.bin .lss (.c t32_24) (.c (.int .i64 0))) [] H) H fun t33_25 H => run S
  (.pick (.c t20_13) (.c t33_25) (.c (.bool false))) [] H fun t34_26 H => jn (sq (fun e28 H => jn (sq (fun e30 H => run S (.bin .sub (.c (e30 9)) (.c (.int .i64 1))) []
  H fun t36_31 H => Q .normal (upd (upd (upd e30 35 (e30 9)) 36 t36_31) 9 t36_31) H) Q) fun Q29 => run S (.bin .sub (.c (e28 9)) (.c (.int .i64 1))) [] H fun t41_32 H =>
  run S (.bin .sub (.c (e28 9)) (.c (.int .i64 1))) [] H fun t44_33 H => run S (.iad 1 (.c (e28 0)) (.c t44_33)) [] H fun t45_34 H => run S (.ld (.c t45_34)) [] H fun
  t46_35 H => run S (.iad 1 (.c (e28 0)) (.c (e28 9))) [] H fun t49_36 H => run S (.ld (.c t49_36)) [] H fun t50_37 H => run S (.iad 1 (.c (e28 0)) (.c (e28 9))) [] H
  fun t51_38 H => run S (.st (.c t51_38) (.c t46_35)) [] H fun _ H => run S (.iad 1 (.c (e28 0)) (.c t41_32)) [] H fun t52_39 H => run S (.st (.c t52_39) (.c t50_37)) []
  H fun _ H => Q29 .normal (upd (upd (upd (upd (upd (upd (upd (upd (upd (upd (upd (upd (upd (upd (upd (upd e28 37 (e28 0)) 38 (e28 9)) 39 (e28 0)) 40 (e28 9)) 41 t41_32)
  42 (e28 0)) 43 (e28 9)) 44 t44_33) 45 t45_34) 46 t46_35) 47 (e28 0)) 48 (e28 9)) 49 t49_36) 50 t50_37) 51 t51_38) 52 t52_39) H) Q) fun Q27 => cnd t34_26 (fun Q40 =>
  Q40 .normal (upd (upd (upd (upd (upd (upd (upd (upd (upd (upd (upd (upd (upd (upd (upd (upd (upd e 18 (e 9)) 19 (e 1)) 20 t20_13) 21 t20_13) 22 t22_14) 23 t23_15) 24
  t24_16) 25 t25_17) 26 t26_18) 27 t27_19) 28 t28_20) 29 t29_21) 30 t30_22) 31 t31_23) 32 t32_24) 33 t33_25) 34 t34_26) H) (fun Q41 => Q41 (.exit 2) (upd (upd (upd (upd
  (upd (upd (upd (upd (upd (upd (upd (upd (upd (upd (upd (upd (upd e 18 (e 9)) 19 (e 1)) 20 t20_13) 21 t20_13) 22 t22_14) 23 t23_15) 24 t24_16) 25 t25_17) 26 t26_18) 27
  t27_19) 28 t28_20) 29 t29_21) 30 t30_22) 31 t31_23) 32 t32_24) 33 t33_25) 34 t34_26) H) Q27
theorem h101_1 (S : Sys) (e : Fe) (H : Heap) (Q : Kx) : wpC S b101_1 e H Q = s101_1 S e H Q := by kernel_rfl
theorem l101_1 (S : Sys) {Q : Kx} (I : Nat → Fe → Heap → Prop) (d : Nat) {e0 : Fe} {H : Heap} (h0 : I d e0 H) (hr : ∀ (d : Nat) (e : Fe) (H : Heap), I d e H → s101_1 S e
  H (sq (fun e' H' => ∃ d', d' < d ∧ I d' e' H') Q)) : WL S b101_1 e0 H Q := WL_inv I d h0 fun d e H hi => (h101_1 S e H _).mpr (hr d e H hi)
theorem u101_1 (S : Sys) {Q : Kx} {e : Fe} {H : Heap} (h : s101_1 S e H (sq (fun e' H' => WL S b101_1 e' H' Q) Q)) : WL S b101_1 e H Q := WL_once ((h101_1 S e H _).mpr h)
def b101_0 : KCode := (.seq (.seq (.reg [(.op (some 12) none (.mv (.t 8))), (.op (some 13) none (.mv (.t 2))), (.op (some 14) none (.bin .lss (.t 12) (.t 13)))]) (.cond
  (.t 14) .skip (.exit 0))) (.seq (.block 1 (.seq (.reg [(.op (some 17) none (.mv (.t 8))), (.op (some 9) none (.mv (.t 17)))]) (.block 2 (.loop (.seq (.seq (.reg [(.op
  (some 18) none (.mv (.t 9))), (.op (some 19) none (.mv (.t 1))), (.op (some 20) none (.bin .gtr (.t 18) (.t 19))), (.op (some 21) none (.mv (.t 20))), (.op (some 22)
  (some (21, true)) (.mv (.t 3))), (.op (some 23) (some (21, true)) (.mv (.t 0))), (.op (some 24) (some (21, true)) (.mv (.t 9))), (.op (some 25) (some (21, true)) (.iad
  1 (.t 23) (.t 24))), (.op (some 26) (some (21, true)) (.ld (.t 25))), (.op (some 27) (some (21, true)) (.mv (.t 0))), (.op (some 28) (some (21, true)) (.mv (.t 9))),
  (.op (some 29) (some (21, true)) (.bin .sub (.t 28) (.c (.int .i64 1)))), (.op (some 30) (some (21, true)) (.iad 1 (.t 27) (.t 29))), (.op (some 31) (some (21, true))
  (.ld (.t 30))), (.op (some 32) (some (21, true)) (.callv (.t 22) [(.t 26), (.t 31)])), (.op (some 33) (some (21, true)) (.bin .lss (.t 32) (.c (.int .i64 0)))), (.op
  (some 34) none (.pick (.t 21) (.t 33) (.c (.bool false))))]) (.cond (.t 34) .skip (.exit 2))) (.seq (.block 3 (.reg [(.op (some 37) none (.mv (.t 0))), (.op (some 38)
  none (.mv (.t 9))), (.op (some 39) none (.mv (.t 0))), (.op (some 40) none (.mv (.t 9))), (.op (some 41) none (.bin .sub (.t 40) (.c (.int .i64 1)))), (.op (some 42)
  none (.mv (.t 0))), (.op (some 43) none (.mv (.t 9))), (.op (some 44) none (.bin .sub (.t 43) (.c (.int .i64 1)))), (.op (some 45) none (.iad 1 (.t 42) (.t 44))), (.op
  (some 46) none (.ld (.t 45))), (.op (some 47) none (.mv (.t 0))), (.op (some 48) none (.mv (.t 9))), (.op (some 49) none (.iad 1 (.t 47) (.t 48))), (.op (some 50) none
  (.ld (.t 49))), (.op (some 51) none (.iad 1 (.t 37) (.t 38))), (.op none none (.st (.t 51) (.t 46))), (.op (some 52) none (.iad 1 (.t 39) (.t 41))), (.op none none
  (.st (.t 52) (.t 50)))])) (.reg [(.op (some 35) none (.mv (.t 9))), (.op (some 36) none (.bin .sub (.t 35) (.c (.int .i64 1)))), (.op (some 9) none (.mv (.t
  36)))]))))))) (.reg [(.op (some 15) none (.mv (.t 8))), (.op (some 16) none (.bin .add (.t 15) (.c (.int .i64 1)))), (.op (some 8) none (.mv (.t 16)))])))
def s101_0 (S : Sys) (e : Fe) (H : Heap) (Q : Kx) : Prop := run S (.bin .lss (.c (e 8)) (.c (e 2))) [] H fun t14_3 H => jn (sq (fun e5 H => jn (sq (fun e7 H => run S
  (.bin .add (.c (e7 8)) (.c (.int .i64 1))) [] H fun t16_8 H => Q .normal (upd (upd (upd e7 15 (e7 8)) 16 t16_8) 8 t16_8) H) Q) fun Q6 => jn (blk 1 Q6) fun Q9 => jn
  (blk 2 Q9) fun Q10 => WL S b101_1 (upd (upd e5 17 (e5 8)) 9 (e5 8)) H Q10) Q) fun Q4 => cnd t14_3 (fun Q11 => Q11 .normal (upd (upd (upd e 12 (e 8)) 13 (e 2)) 14
  t14_3) H) (fun Q12 => Q12 (.exit 0) (upd (upd (upd e 12 (e 8)) 13 (e 2)) 14 t14_3) H) Q4
theorem h101_0 (S : Sys) (e : Fe) (H : Heap) (Q : Kx) : wpC S b101_0 e H Q = s101_0 S e H Q := by kernel_rfl
theorem l101_0 (S : Sys) {Q : Kx} (I : Nat → Fe → Heap → Prop) (d : Nat) {e0 : Fe} {H : Heap} (h0 : I d e0 H) (hr : ∀ (d : Nat) (e : Fe) (H : Heap), I d e H → s101_0 S e
  H (sq (fun e' H' => ∃ d', d' < d ∧ I d' e' H') Q)) : WL S b101_0 e0 H Q := WL_inv I d h0 fun d e H hi => (h101_0 S e H _).mpr (hr d e H hi)
theorem u101_0 (S : Sys) {Q : Kx} {e : Fe} {H : Heap} (h : s101_0 S e H (sq (fun e' H' => WL S b101_0 e' H' Q) Q)) : WL S b101_0 e H Q := WL_once ((h101_0 S e H _).mpr h)
def s101 (S : Sys) (a0 a1 a2 a3 : Value) (H : Heap) (R : Kv) : Prop := run S (.bin .add (.c a1) (.c (.int .i64 1))) [] H fun t11_1 H => jn (blk 0 (fn [] R)) fun Q2 => WL
  S b101_0 (upd (upd (upd (Env.get [a0, a1, a2, a3]) 10 a1) 11 t11_1) 8 t11_1) H Q2
theorem h101 (S : Sys) (a0 a1 a2 a3 : Value) (H : Heap) (R : Kv) : wpC S k101.body (Env.get [a0, a1, a2, a3]) H (fn [] R) = s101 S a0 a1 a2 a3 H R := by kernel_rfl
theorem w101 {S : Sys} (hR : S.R 101 = none) (hF : S.F 101 = some k101) (a0 a1 a2 a3 : Value) {H : Heap} {R : Kv} (h : s101 S a0 a1 a2 a3 H R) : Wf S 101 [a0, a1, a2,
  a3] H R := Wf_sh hR hF ((h101 S a0 a1 a2 a3 H R).mpr h)
end Go.Proofs.Ytccjanieihlpcaa.K
