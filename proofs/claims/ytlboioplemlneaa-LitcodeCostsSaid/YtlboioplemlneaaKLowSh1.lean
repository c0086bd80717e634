/- The functions as nested words with named values, each held against its code by the kernel. Printed by a program of this work (sh.py). -/
import Derived.Test.YtlboioplemlneaaKLowCode
set_option maxRecDepth 100000
set_option linter.unusedVariables false
namespace Go.Proofs.Ytlboioplemlneaa.K
open Go Go.Proofs
def s11 (S : Sys) (a0 : Value) (H : Heap) (R : Kv) : Prop := run S (.call 21 []) [] H fun t12_1 H => run S (.un .not (.c t12_1)) [] H fun t13_2 H => jn (sq (fun e4 H =>
  run S (.lenL (.c (e4 0))) [] H fun t15_5 H => run S (.bin .gtr (.c t15_5) (.c (.int .i64 200))) [] H fun t16_6 H => gd t16_6 false (run S (.mv (.c (e4 0))) [] H) H fun
  t18_7 H => gd t16_6 false (run S (.lenL (.c t18_7)) [] H) H fun t19_8 H => gd t16_6 false (run S (.bin .eql (.c t19_8) (.c (.int .i64 0))) [] H) H fun t20_9 H => run S
  (.pick (.c t16_6) (.c (.bool true)) (.c t20_9)) [] H fun t21_10 H => jn (sq (fun e12 H => run S (.call 45 [(.c (e12 0))]) [] H fun t23_13 H => run S (.call 38 [(.c
  t23_13)]) [] H fun t26_14 H => run S (.xt (.c t26_14) 0) [] H fun t27_15 H => run S (.xt (.c t26_14) 1) [] H fun t28_16 H => run S (.call 43 [(.c t23_13), (.c
  t27_15)]) [] H fun t32_17 H => run S (.xt (.c t32_17) 0) [] H fun t33_18 H => run S (.xt (.c t32_17) 1) [] H fun t34_19 H => run S (.call 25 [(.c t27_15), (.c (e12
  0))]) [] H fun t38_20 H => run S (.xt (.c t38_20) 0) [] H fun t39_21 H => run S (.xt (.c t38_20) 1) [] H fun t40_22 H => run S (.lenL (.c (e12 0))) [] H fun t45_23 H
  => run S (.call 23 [(.c t27_15), (.c t39_21), (.c t45_23)]) [] H fun t46_24 H => run S (.xt (.c t46_24) 0) [] H fun t47_25 H => run S (.xt (.c t46_24) 1) [] H fun
  t48_26 H => gd t28_16 true (run S (.mv (.c t34_19)) [] H) H fun t51_27 H => run S (.pick (.c t28_16) (.c t51_27) (.c (.bool false))) [] H fun t52_28 H => gd t52_28
  true (run S (.mv (.c t40_22)) [] H) H fun t54_29 H => run S (.pick (.c t52_28) (.c t54_29) (.c (.bool false))) [] H fun t55_30 H => gd t55_30 true (run S (.mv (.c
  t48_26)) [] H) H fun t57_31 H => run S (.pick (.c t55_30) (.c t57_31) (.c (.bool false))) [] H fun t58_32 H => gd t58_32 true (run S (.mv (.c t39_21)) [] H) H fun
  t60_33 H => gd t58_32 true (run S (.lenS (.c t60_33)) [] H) H fun t61_34 H => gd t58_32 true (run S (.mv (.c t33_18)) [] H) H fun t62_35 H => gd t58_32 true (run S
  (.bin .add (.c t62_35) (.c (.int .i64 7))) [] H) H fun t63_36 H => gd t58_32 true (run S (.bin .quo (.c t63_36) (.c (.int .i64 8))) [] H) H fun t64_37 H => gd t58_32
  true (run S (.bin .eql (.c t61_34) (.c t64_37)) [] H) H fun t65_38 H => run S (.pick (.c t58_32) (.c t65_38) (.c (.bool false))) [] H fun t66_39 H => gd t66_39 true
  (run S (.mv (.c t47_25)) [] H) H fun t68_40 H => gd t66_39 true (run S (.b2s 5 (.c t68_40)) [] H) H fun t69_41 H => gd t66_39 true (run S (.mv (.c (e12 0))) [] H) H
  fun t70_42 H => gd t66_39 true (run S (.b2s 5 (.c t70_42)) [] H) H fun t71_43 H => gd t66_39 true (run S (.bin .eql (.c t69_41) (.c t71_43)) [] H) H fun t72_44 H =>
  run S (.pick (.c t66_39) (.c t72_44) (.c (.bool false))) [] H fun t73_45 H => R t73_45 H) (fn [(.t 2)] R)) fun Q11 => cnd t21_10 (fun Q46 => Q46 .ret (upd (upd (upd
  (upd (upd (upd (upd (upd (upd e4 14 (e4 0)) 15 t15_5) 16 t16_6) 17 t16_6) 18 t18_7) 19 t19_8) 20 t20_9) 21 t21_10) 2 (.bool true)) H) (fun Q47 => Q47 .normal (upd (upd
  (upd (upd (upd (upd (upd (upd e4 14 (e4 0)) 15 t15_5) 16 t16_6) 17 t16_6) 18 t18_7) 19 t19_8) 20 t20_9) 21 t21_10) H) Q11) (fn [(.t 2)] R)) fun Q3 => cnd t13_2 (fun
  Q48 => Q48 .ret (upd (upd (upd (upd (Env.get [a0]) 2 (.bool false)) 12 t12_1) 13 t13_2) 2 (.bool false)) H) (fun Q49 => Q49 .normal (upd (upd (upd (Env.get [a0]) 2
  (.bool false)) 12 t12_1) 13 t13_2) H) Q3
theorem h11 (S : Sys) (a0 : Value) (H : Heap) (R : Kv) : wpC S k11.body (Env.get [a0]) H (fn [(.t 2)] R) = s11 S a0 H R := by kernel_rfl
theorem w11 {S : Sys} (hR : S.R 11 = none) (hF : S.F 11 = some k11) (a0 : Value) {H : Heap} {R : Kv} (h : s11 S a0 H R) : Wf S 11 [a0] H R := Wf_sh hR hF ((h11 S a0 H
  R).mpr h)
def b22_0 : KCode := (.seq (.seq (.reg [(.op (some 9) none (.mv (.t 5))), (.op (some 10) none (.mv (.t 0))), (.op (some 11) none (.lenL (.t 10))), (.op (some 12) none
  (.bin .lss (.t 9) (.t 11)))]) (.cond (.t 12) .skip (.exit 0))) (.seq (.block 1 (.seq (.reg [(.op (some 15) none (.mv (.t 0))), (.op (some 16) none (.mv (.t 5))), (.op
  (some 17) none (.iad 1 (.t 15) (.t 16))), (.op (some 18) none (.ld (.t 17))), (.op (some 19) none (.bin .gtr (.t 18) (.c (.int .i64 0))))]) (.cond (.t 19) (.seq (.reg
  [(.op (some 20) none (.mv (.t 3))), (.op (some 21) none (.mv (.t 0))), (.op (some 22) none (.mv (.t 5))), (.op (some 23) none (.iad 1 (.t 21) (.t 22))), (.op (some 24)
  none (.ld (.t 23))), (.op (some 25) none (.bin .sub (.c (.int .i64 11)) (.t 24))), (.op (some 26) none (.call 60 [(.t 25)])), (.op (some 27) none (.bin .add (.t 20)
  (.t 26))), (.op (some 3) none (.mv (.t 27)))]) (.reg [(.op (some 28) none (.mv (.t 4))), (.op (some 29) none (.bin .add (.t 28) (.c (.int .i64 1)))), (.op (some 4)
  none (.mv (.t 29)))])) .skip))) (.reg [(.op (some 13) none (.mv (.t 5))), (.op (some 14) none (.bin .add (.t 13) (.c (.int .i64 1)))), (.op (some 5) none (.mv (.t
  14)))])))
def s22_0 (S : Sys) (e : Fe) (H : Heap) (Q : Kx) : Prop := run S (.lenL (.c (e 0))) [] H fun t11_18 H => run S (.bin .lss (.c (e 5)) (.c t11_18)) [] H fun t12_19 H => jn
  (sq (fun e21 H => jn (sq (fun e23 H => run S (.bin .add (.c (e23 5)) (.c (.int .i64 1))) [] H fun t14_24 H => Q .normal (upd (upd (upd e23 13 (e23 5)) 14 t14_24) 5
  t14_24) H) Q) fun Q22 => run S (.iad 1 (.c (e21 0)) (.c (e21 5))) [] H fun t17_25 H => run S (.ld (.c t17_25)) [] H fun t18_26 H => run S (.bin .gtr (.c t18_26) (.c
  (.int .i64 0))) [] H fun t19_27 H => jn (blk 1 Q22) fun Q28 => cnd t19_27 (fun Q29 => run S (.iad 1 (.c (e21 0)) (.c (e21 5))) [] H fun t23_31 H => run S (.ld (.c
  t23_31)) [] H fun t24_32 H => run S (.bin .sub (.c (.int .i64 11)) (.c t24_32)) [] H fun t25_33 H => run S (.call 60 [(.c t25_33)]) [] H fun t26_34 H => run S (.bin
  .add (.c (e21 3)) (.c t26_34)) [] H fun t27_35 H => run S (.bin .add (.c (e21 4)) (.c (.int .i64 1))) [] H fun t29_36 H => Q29 .normal (upd (upd (upd (upd (upd (upd
  (upd (upd (upd (upd (upd (upd (upd (upd (upd (upd (upd e21 15 (e21 0)) 16 (e21 5)) 17 t17_25) 18 t18_26) 19 t19_27) 20 (e21 3)) 21 (e21 0)) 22 (e21 5)) 23 t23_31) 24
  t24_32) 25 t25_33) 26 t26_34) 27 t27_35) 3 t27_35) 28 (e21 4)) 29 t29_36) 4 t29_36) H) (fun Q30 => Q30 .normal (upd (upd (upd (upd (upd e21 15 (e21 0)) 16 (e21 5)) 17
  t17_25) 18 t18_26) 19 t19_27) H) Q28) Q) fun Q20 => cnd t12_19 (fun Q37 => Q37 .normal (upd (upd (upd (upd e 9 (e 5)) 10 (e 0)) 11 t11_18) 12 t12_19) H) (fun Q38 =>
  Q38 (.exit 0) (upd (upd (upd (upd e 9 (e 5)) 10 (e 0)) 11 t11_18) 12 t12_19) H) Q20
theorem h22_0 (S : Sys) (e : Fe) (H : Heap) (Q : Kx) : wpC S b22_0 e H Q = s22_0 S e H Q := by kernel_rfl
theorem l22_0 (S : Sys) {Q : Kx} (I : Nat → Fe → Heap → Prop) (d : Nat) {e0 : Fe} {H : Heap} (h0 : I d e0 H) (hr : ∀ (d : Nat) (e : Fe) (H : Heap), I d e H → s22_0 S e H
  (sq (fun e' H' => ∃ d', d' < d ∧ I d' e' H') Q)) : WL S b22_0 e0 H Q := WL_inv I d h0 fun d e H hi => (h22_0 S e H _).mpr (hr d e H hi)
theorem u22_0 (S : Sys) {Q : Kx} {e : Fe} {H : Heap} (h : s22_0 S e H (sq (fun e' H' => WL S b22_0 e' H' Q) Q)) : WL S b22_0 e H Q := WL_once ((h22_0 S e H _).mpr h)
def s22 (S : Sys) (a0 : Value) (H : Heap) (R : Kv) : Prop := run S (.call 59 [(.c a0)]) [] H fun t7_1 H => run S (.un .not (.c t7_1)) [] H fun t8_2 H => jn (sq (fun e4 H
  => jn (sq (fun e6 H => run S (.bin .eql (.c (e6 3)) (.c (.int .i64 2048))) [] H fun t31_7 H => gd t31_7 false (run S (.mv (.c (e6 4))) [] H) H fun t33_8 H => gd t31_7
  false (run S (.bin .eql (.c t33_8) (.c (.int .i64 1))) [] H) H fun t34_9 H => gd t31_7 false (run S (.mv (.c t34_9)) [] H) H fun t35_10 H => gd t35_10 true (run S (.mv
  (.c (e6 3))) [] H) H fun t36_11 H => gd t35_10 true (run S (.bin .eql (.c t36_11) (.c (.int .i64 1024))) [] H) H fun t37_12 H => gd t31_7 false (run S (.pick (.c
  t35_10) (.c t37_12) (.c (.bool false))) [] H) H fun t38_13 H => run S (.pick (.c t31_7) (.c (.bool true)) (.c t38_13)) [] H fun t39_14 H => R t39_14 H) (fn [(.t 2)]
  R)) fun Q5 => jn (blk 0 Q5) fun Q15 => WL S b22_0 (upd (upd (upd e4 3 (.int .i64 0)) 4 (.int .i64 0)) 5 (.int .i64 0)) H Q15) (fn [(.t 2)] R)) fun Q3 => cnd t8_2 (fun
  Q16 => Q16 .ret (upd (upd (upd (upd (upd (Env.get [a0]) 2 (.bool false)) 6 a0) 7 t7_1) 8 t8_2) 2 (.bool false)) H) (fun Q17 => Q17 .normal (upd (upd (upd (upd (Env.get
  [a0]) 2 (.bool false)) 6 a0) 7 t7_1) 8 t8_2) H) Q3
theorem h22 (S : Sys) (a0 : Value) (H : Heap) (R : Kv) : wpC S k22.body (Env.get [a0]) H (fn [(.t 2)] R) = s22 S a0 H R := by kernel_rfl
theorem w22 {S : Sys} (hR : S.R 22 = none) (hF : S.F 22 = some k22) (a0 : Value) {H : Heap} {R : Kv} (h : s22 S a0 H R) : Wf S 22 [a0] H R := Wf_sh hR hF ((h22 S a0 H
  R).mpr h)
def b23_0 : KCode := (.seq (.reg [(.op (some 34) none (.bin .lss (.t 33) (.t 32)))]) (.seq (.cond (.t 34) .skip (.exit 0)) (.seq (.block 1 (.seq (.reg [(.op (some 36)
  none (.mv (.t 8))), (.op (some 37) none (.mv (.t 9))), (.op (some 38) none (.call 64 [(.t 36), (.t 37)])), (.op (some 35) none (.mv (.t 38))), (.op (some 39) none (.xt
  (.t 35) 0)), (.op (some 40) none (.xt (.t 35) 1)), (.op (some 11) none (.mv (.t 39))), (.op (some 12) none (.mv (.t 40)))]) (.seq (.seq (.reg [(.op (some 41) none (.mv
  (.t 12))), (.op (some 42) none (.un .not (.t 41)))]) (.cond (.t 42) (.seq (.reg [(.op (some 6) none (.mv (.c (.slice none 0 0)))), (.op (some 7) none (.mv (.c (.bool
  false))))]) .ret) .skip)) (.reg [(.op (some 43) none (.mv (.t 10))), (.op (some 44) none (.mv (.t 11))), (.op (some 45) none (.bsl 5 1 [(.int .u8 0)] [(0, (1, (.t
  44)))])), (.op (some 46) none (.app 5 1 1 (.t 43) (.t 45))), (.op (some 10) none (.mv (.t 46)))])))) (.reg [(.op (some 47) none (.bin .add (.t 33) (.c (.int .i64
  1)))), (.op (some 33) none (.mv (.t 47)))]))))
def s23_0 (S : Sys) (e : Fe) (H : Heap) (Q : Kx) : Prop := run S (.bin .lss (.c (e 33)) (.c (e 32))) [] H fun t34_32 H => jn (sq (fun e34 H => jn (sq (fun e36 H => run S
  (.bin .add (.c (e36 33)) (.c (.int .i64 1))) [] H fun t47_37 H => Q .normal (upd (upd e36 47 t47_37) 33 t47_37) H) Q) fun Q35 => run S (.call 64 [(.c (e34 8)), (.c
  (e34 9))]) [] H fun t38_38 H => run S (.xt (.c t38_38) 0) [] H fun t39_39 H => run S (.xt (.c t38_38) 1) [] H fun t40_40 H => run S (.un .not (.c t40_40)) [] H fun
  t42_41 H => jn (blk 1 Q35) fun Q42 => jn (sq (fun e44 H => run S (.bsl 5 1 [(.int .u8 0)] [(0, (1, (.c (e44 11))))]) [] H fun t45_45 H => run S (.app 5 1 1 (.c (e44
  10)) (.c t45_45)) [] H fun t46_46 H => Q42 .normal (upd (upd (upd (upd (upd e44 43 (e44 10)) 44 (e44 11)) 45 t45_45) 46 t46_46) 10 t46_46) H) Q42) fun Q43 => cnd
  t42_41 (fun Q47 => Q47 .ret (upd (upd (upd (upd (upd (upd (upd (upd (upd (upd (upd (upd e34 36 (e34 8)) 37 (e34 9)) 38 t38_38) 35 t38_38) 39 t39_39) 40 t40_40) 11
  t39_39) 12 t40_40) 41 t40_40) 42 t42_41) 6 (.slice none 0 0)) 7 (.bool false)) H) (fun Q48 => Q48 .normal (upd (upd (upd (upd (upd (upd (upd (upd (upd (upd e34 36 (e34
  8)) 37 (e34 9)) 38 t38_38) 35 t38_38) 39 t39_39) 40 t40_40) 11 t39_39) 12 t40_40) 41 t40_40) 42 t42_41) H) Q43) Q) fun Q33 => cnd t34_32 (fun Q49 => Q49 .normal (upd e
  34 t34_32) H) (fun Q50 => Q50 (.exit 0) (upd e 34 t34_32) H) Q33
theorem h23_0 (S : Sys) (e : Fe) (H : Heap) (Q : Kx) : wpC S b23_0 e H Q = s23_0 S e H Q := by kernel_rfl
theorem l23_0 (S : Sys) {Q : Kx} (I : Nat → Fe → Heap → Prop) (d : Nat) {e0 : Fe} {H : Heap} (h0 : I d e0 H) (hr : ∀ (d : Nat) (e : Fe) (H : Heap), I d e H → s23_0 S e H
  (sq (fun e' H' => ∃ d', d' < d ∧ I d' e' H') Q)) : WL S b23_0 e0 H Q := WL_inv I d h0 fun d e H hi => (h23_0 S e H _).mpr (hr d e H hi)
theorem u23_0 (S : Sys) {Q : Kx} {e : Fe} {H : Heap} (h : s23_0 S e H (sq (fun e' H' => WL S b23_0 e' H' Q) Q)) : WL S b23_0 e H Q := WL_once ((h23_0 S e H _).mpr h)
def s23 (S : Sys) (a0 a1 a2 : Value) (H : Heap) (R : Kv) : Prop := run S (.call 61 [(.c a0)]) [] H fun t17_1 H => run S (.un .not (.c t17_1)) [] H fun t18_2 H => gd
  t18_2 false (run S (.mv (.c a2)) [] H) H fun t20_3 H => gd t18_2 false (run S (.bin .lss (.c t20_3) (.c (.int .i64 0))) [] H) H fun t21_4 H => run S (.pick (.c t18_2)
  (.c (.bool true)) (.c t21_4)) [] H fun t22_5 H => gd t22_5 false (run S (.mv (.c a2)) [] H) H fun t24_6 H => gd t22_5 false (run S (.bin .gtr (.c t24_6) (.c (.int .i64
  1048576))) [] H) H fun t25_7 H => run S (.pick (.c t22_5) (.c (.bool true)) (.c t25_7)) [] H fun t26_8 H => jn (sq (fun e10 H => run S (.call 62 [(.c (e10 0))]) [] H
  fun t28_11 H => run S (.s2b 5 (.c (e10 1))) [] H fun t30_12 H => run S (.call 63 [(.c t30_12)]) [] H fun t31_13 H => jn (sq (fun e15 H => run S (.call 65 [(.c (e15
  9))]) [] H fun t49_16 H => run S (.mn (.c t49_16) [(.c (.int .i64 8))]) [] H fun t53_17 H => run S (.call 66 [(.c (e15 9)), (.c t53_17)]) [] H fun t54_18 H => run S
  (.xt (.c t54_18) 0) [] H fun t55_19 H => run S (.xt (.c t54_18) 1) [] H fun t56_20 H => run S (.bin .gtr (.c t49_16) (.c (.int .i64 7))) [] H fun t58_21 H => gd t58_21
  false (run S (.mv (.c t55_19)) [] H) H fun t60_22 H => gd t58_21 false (run S (.bin .neq (.c t60_22) (.c (.int .u32 0))) [] H) H fun t61_23 H => run S (.pick (.c
  t58_21) (.c (.bool true)) (.c t61_23)) [] H fun t62_24 H => jn (sq (fun e26 H => R (tup [(e26 10), (.bool true)]) H) (fn [(.t 6), (.t 7)] R)) fun Q25 => cnd t62_24
  (fun Q27 => Q27 .ret (upd (upd (upd (upd (upd (upd (upd (upd (upd (upd (upd (upd (upd (upd (upd (upd (upd (upd (upd (upd e15 48 (e15 9)) 49 t49_16) 13 t49_16) 51 (e15
  9)) 52 t49_16) 53 t53_17) 54 t54_18) 50 t54_18) 55 t55_19) 56 t56_20) 14 t55_19) 15 t56_20) 57 t49_16) 58 t58_21) 59 t58_21) 60 t60_22) 61 t61_23) 62 t62_24) 6 (.slice
  none 0 0)) 7 (.bool false)) H) (fun Q28 => Q28 .normal (upd (upd (upd (upd (upd (upd (upd (upd (upd (upd (upd (upd (upd (upd (upd (upd (upd (upd e15 48 (e15 9)) 49
  t49_16) 13 t49_16) 51 (e15 9)) 52 t49_16) 53 t53_17) 54 t54_18) 50 t54_18) 55 t55_19) 56 t56_20) 14 t55_19) 15 t56_20) 57 t49_16) 58 t58_21) 59 t58_21) 60 t60_22) 61
  t61_23) 62 t62_24) H) Q25) (fn [(.t 6), (.t 7)] R)) fun Q14 => jn (blk 0 Q14) fun Q29 => WL S b23_0 (upd (upd (upd (upd (upd (upd (upd (upd (upd (upd e10 27 (e10 0))
  28 t28_11) 29 (e10 1)) 30 t30_12) 31 t31_13) 8 t28_11) 9 t31_13) 10 (.slice none 0 0)) 32 (e10 2)) 33 (.int .i64 0)) H Q29) (fn [(.t 6), (.t 7)] R)) fun Q9 => cnd
  t26_8 (fun Q30 => Q30 .ret (upd (upd (upd (upd (upd (upd (upd (upd (upd (upd (upd (upd (upd (upd (upd (Env.get [a0, a1, a2]) 6 (.slice none 0 0)) 7 (.bool false)) 16
  a0) 17 t17_1) 18 t18_2) 19 t18_2) 20 t20_3) 21 t21_4) 22 t22_5) 23 t22_5) 24 t24_6) 25 t25_7) 26 t26_8) 6 (.slice none 0 0)) 7 (.bool false)) H) (fun Q31 => Q31
  .normal (upd (upd (upd (upd (upd (upd (upd (upd (upd (upd (upd (upd (upd (Env.get [a0, a1, a2]) 6 (.slice none 0 0)) 7 (.bool false)) 16 a0) 17 t17_1) 18 t18_2) 19
  t18_2) 20 t20_3) 21 t21_4) 22 t22_5) 23 t22_5) 24 t24_6) 25 t25_7) 26 t26_8) H) Q9
theorem h23 (S : Sys) (a0 a1 a2 : Value) (H : Heap) (R : Kv) : wpC S k23.body (Env.get [a0, a1, a2]) H (fn [(.t 6), (.t 7)] R) = s23 S a0 a1 a2 H R := by kernel_rfl
theorem w23 {S : Sys} (hR : S.R 23 = none) (hF : S.F 23 = some k23) (a0 a1 a2 : Value) {H : Heap} {R : Kv} (h : s23 S a0 a1 a2 H R) : Wf S 23 [a0, a1, a2] H R := Wf_sh
  hR hF ((h23 S a0 a1 a2 H R).mpr h)
def b24_3 : KCode := (.seq (.seq (.reg [(.op (some 40) none (.mv (.t 14))), (.op (some 41) none (.mv (.t 0))), (.op (some 42) none (.lenL (.t 41))), (.op (some 43) none
  (.bin .lss (.t 40) (.t 42)))]) (.cond (.t 43) .skip (.exit 4))) (.seq (.block 5 (.seq (.reg [(.op (some 46) none (.mv (.t 0))), (.op (some 47) none (.mv (.t 14))),
  (.op (some 48) none (.iad 1 (.t 46) (.t 47))), (.op (some 49) none (.ld (.t 48))), (.op (some 50) none (.bin .gtr (.t 49) (.c (.int .i64 0)))), (.op (some 51) none
  (.mv (.t 50))), (.op (some 52) (some (51, true)) (.mv (.t 10))), (.op (some 53) (some (51, true)) (.mv (.t 14))), (.op (some 54) (some (51, true)) (.iada 256 1 (.t 8)
  (.t 53))), (.op (some 55) (some (51, true)) (.ld (.t 54))), (.op (some 56) (some (51, true)) (.call 69 [(.t 52), (.t 55)])), (.op (some 57) none (.pick (.t 51) (.t 56)
  (.c (.bool false))))]) (.cond (.t 57) (.reg [(.op (some 58) none (.mv (.t 14))), (.op (some 13) none (.mv (.t 58)))]) .skip))) (.reg [(.op (some 44) none (.mv (.t
  14))), (.op (some 45) none (.bin .add (.t 44) (.c (.int .i64 1)))), (.op (some 14) none (.mv (.t 45)))])))
def s24_3 (S : Sys) (e : Fe) (H : Heap) (Q : Kx) : Prop := run S (.lenL (.c (e 0))) [] H fun t42_71 H => run S (.bin .lss (.c (e 14)) (.c t42_71)) [] H fun t43_72 H =>
  jn (sq (fun e74 H => jn (sq (fun e76 H => run S (.bin .add (.c (e76 14)) (.c (.int .i64 1))) [] H fun t45_77 H => Q .normal (upd (upd (upd e76 44 (e76 14)) 45 t45_77)
  14 t45_77) H) Q) fun Q75 => run S (.iad 1 (.c (e74 0)) (.c (e74 14))) [] H fun t48_78 H => run S (.ld (.c t48_78)) [] H fun t49_79 H => run S (.bin .gtr (.c t49_79)
  (.c (.int .i64 0))) [] H fun t50_80 H => gd t50_80 true (run S (.mv (.c (e74 10))) [] H) H fun t52_81 H => gd t50_80 true (run S (.mv (.c (e74 14))) [] H) H fun t53_82
  H => gd t50_80 true (run S (.iada 256 1 (.c (e74 8)) (.c t53_82)) [] H) H fun t54_83 H => gd t50_80 true (run S (.ld (.c t54_83)) [] H) H fun t55_84 H => gd t50_80
  true (run S (.call 69 [(.c t52_81), (.c t55_84)]) [] H) H fun t56_85 H => run S (.pick (.c t50_80) (.c t56_85) (.c (.bool false))) [] H fun t57_86 H => jn (blk 5 Q75)
  fun Q87 => cnd t57_86 (fun Q88 => Q88 .normal (upd (upd (upd (upd (upd (upd (upd (upd (upd (upd (upd (upd (upd (upd e74 46 (e74 0)) 47 (e74 14)) 48 t48_78) 49 t49_79)
  50 t50_80) 51 t50_80) 52 t52_81) 53 t53_82) 54 t54_83) 55 t55_84) 56 t56_85) 57 t57_86) 58 (e74 14)) 13 (e74 14)) H) (fun Q89 => Q89 .normal (upd (upd (upd (upd (upd
  (upd (upd (upd (upd (upd (upd (upd e74 46 (e74 0)) 47 (e74 14)) 48 t48_78) 49 t49_79) 50 t50_80) 51 t50_80) 52 t52_81) 53 t53_82) 54 t54_83) 55 t55_84) 56 t56_85) 57
  t57_86) H) Q87) Q) fun Q73 => cnd t43_72 (fun Q90 => Q90 .normal (upd (upd (upd (upd e 40 (e 14)) 41 (e 0)) 42 t42_71) 43 t43_72) H) (fun Q91 => Q91 (.exit 4) (upd
  (upd (upd (upd e 40 (e 14)) 41 (e 0)) 42 t42_71) 43 t43_72) H) Q73
theorem h24_3 (S : Sys) (e : Fe) (H : Heap) (Q : Kx) : wpC S b24_3 e H Q = s24_3 S e H Q := by kernel_rfl
theorem l24_3 (S : Sys) {Q : Kx} (I : Nat → Fe → Heap → Prop) (d : Nat) {e0 : Fe} {H : Heap} (h0 : I d e0 H) (hr : ∀ (d : Nat) (e : Fe) (H : Heap), I d e H → s24_3 S e H
  (sq (fun e' H' => ∃ d', d' < d ∧ I d' e' H') Q)) : WL S b24_3 e0 H Q := WL_inv I d h0 fun d e H hi => (h24_3 S e H _).mpr (hr d e H hi)
theorem u24_3 (S : Sys) {Q : Kx} {e : Fe} {H : Heap} (h : s24_3 S e H (sq (fun e' H' => WL S b24_3 e' H' Q) Q)) : WL S b24_3 e H Q := WL_once ((h24_3 S e H _).mpr h)
def b24_2 : KCode := (.seq (.seq (.reg [(.op (some 16) none (.mv (.t 9))), (.op (some 17) none (.mv (.t 0))), (.op (some 18) none (.lenL (.t 17))), (.op (some 19) none
  (.bin .lss (.t 16) (.t 18)))]) (.cond (.t 19) .skip (.exit 0))) (.seq (.block 1 (.seq (.reg [(.op (some 22) none (.mv (.t 0))), (.op (some 23) none (.mv (.t 9))), (.op
  (some 24) none (.iad 1 (.t 22) (.t 23))), (.op (some 25) none (.ld (.t 24))), (.op (some 26) none (.bin .gtr (.t 25) (.c (.int .i64 0))))]) (.cond (.t 26) (.reg [(.op
  (some 27) none (.mv (.t 9))), (.op (some 28) none (.mv (.t 0))), (.op (some 29) none (.mv (.t 9))), (.op (some 30) none (.call 67 [(.t 28), (.t 29)])), (.op (some 31)
  none (.iada 256 1 (.t 8) (.t 27))), (.op none none (.st (.t 31) (.t 30)))]) .skip))) (.reg [(.op (some 20) none (.mv (.t 9))), (.op (some 21) none (.bin .add (.t 20)
  (.c (.int .i64 1)))), (.op (some 9) none (.mv (.t 21)))])))
def s24_2 (S : Sys) (e : Fe) (H : Heap) (Q : Kx) : Prop := run S (.lenL (.c (e 0))) [] H fun t18_54 H => run S (.bin .lss (.c (e 9)) (.c t18_54)) [] H fun t19_55 H => jn
  (sq (fun e57 H => jn (sq (fun e59 H => run S (.bin .add (.c (e59 9)) (.c (.int .i64 1))) [] H fun t21_60 H => Q .normal (upd (upd (upd e59 20 (e59 9)) 21 t21_60) 9
  t21_60) H) Q) fun Q58 => run S (.iad 1 (.c (e57 0)) (.c (e57 9))) [] H fun t24_61 H => run S (.ld (.c t24_61)) [] H fun t25_62 H => run S (.bin .gtr (.c t25_62) (.c
  (.int .i64 0))) [] H fun t26_63 H => jn (blk 1 Q58) fun Q64 => cnd t26_63 (fun Q65 => run S (.call 67 [(.c (e57 0)), (.c (e57 9))]) [] H fun t30_67 H => run S (.iada
  256 1 (.c (e57 8)) (.c (e57 9))) [] H fun t31_68 H => run S (.st (.c t31_68) (.c t30_67)) [] H fun _ H => Q65 .normal (upd (upd (upd (upd (upd (upd (upd (upd (upd (upd
  e57 22 (e57 0)) 23 (e57 9)) 24 t24_61) 25 t25_62) 26 t26_63) 27 (e57 9)) 28 (e57 0)) 29 (e57 9)) 30 t30_67) 31 t31_68) H) (fun Q66 => Q66 .normal (upd (upd (upd (upd
  (upd e57 22 (e57 0)) 23 (e57 9)) 24 t24_61) 25 t25_62) 26 t26_63) H) Q64) Q) fun Q56 => cnd t19_55 (fun Q69 => Q69 .normal (upd (upd (upd (upd e 16 (e 9)) 17 (e 0)) 18
  t18_54) 19 t19_55) H) (fun Q70 => Q70 (.exit 0) (upd (upd (upd (upd e 16 (e 9)) 17 (e 0)) 18 t18_54) 19 t19_55) H) Q56
theorem h24_2 (S : Sys) (e : Fe) (H : Heap) (Q : Kx) : wpC S b24_2 e H Q = s24_2 S e H Q := by kernel_rfl
theorem l24_2 (S : Sys) {Q : Kx} (I : Nat → Fe → Heap → Prop) (d : Nat) {e0 : Fe} {H : Heap} (h0 : I d e0 H) (hr : ∀ (d : Nat) (e : Fe) (H : Heap), I d e H → s24_2 S e H
  (sq (fun e' H' => ∃ d', d' < d ∧ I d' e' H') Q)) : WL S b24_2 e0 H Q := WL_inv I d h0 fun d e H hi => (h24_2 S e H _).mpr (hr d e H hi)
theorem u24_2 (S : Sys) {Q : Kx} {e : Fe} {H : Heap} (h : s24_2 S e H (sq (fun e' H' => WL S b24_2 e' H' Q) Q)) : WL S b24_2 e H Q := WL_once ((h24_2 S e H _).mpr h)
def b24_1 : KCode := (.seq (.seq (.reg [(.op (some 35) none (.mv (.t 12))), (.op (some 36) none (.mv (.t 2))), (.op (some 37) none (.bin .lss (.t 35) (.t 36)))]) (.cond
  (.t 37) .skip (.exit 2))) (.seq (.block 3 (.seq (.reg [(.op (some 13) none (.mv (.c (.int .i64 (-1)))))]) (.seq (.seq (.reg [(.op (some 14) none (.mv (.c (.int .i64
  0))))]) (.block 4 (.loop (.seq (.seq (.reg [(.op (some 40) none (.mv (.t 14))), (.op (some 41) none (.mv (.t 0))), (.op (some 42) none (.lenL (.t 41))), (.op (some 43)
  none (.bin .lss (.t 40) (.t 42)))]) (.cond (.t 43) .skip (.exit 4))) (.seq (.block 5 (.seq (.reg [(.op (some 46) none (.mv (.t 0))), (.op (some 47) none (.mv (.t
  14))), (.op (some 48) none (.iad 1 (.t 46) (.t 47))), (.op (some 49) none (.ld (.t 48))), (.op (some 50) none (.bin .gtr (.t 49) (.c (.int .i64 0)))), (.op (some 51)
  none (.mv (.t 50))), (.op (some 52) (some (51, true)) (.mv (.t 10))), (.op (some 53) (some (51, true)) (.mv (.t 14))), (.op (some 54) (some (51, true)) (.iada 256 1
  (.t 8) (.t 53))), (.op (some 55) (some (51, true)) (.ld (.t 54))), (.op (some 56) (some (51, true)) (.call 69 [(.t 52), (.t 55)])), (.op (some 57) none (.pick (.t 51)
  (.t 56) (.c (.bool false))))]) (.cond (.t 57) (.reg [(.op (some 58) none (.mv (.t 14))), (.op (some 13) none (.mv (.t 58)))]) .skip))) (.reg [(.op (some 44) none (.mv
  (.t 14))), (.op (some 45) none (.bin .add (.t 44) (.c (.int .i64 1)))), (.op (some 14) none (.mv (.t 45)))])))))) (.seq (.seq (.reg [(.op (some 59) none (.mv (.t
  13))), (.op (some 60) none (.bin .lss (.t 59) (.c (.int .i64 0))))]) (.cond (.t 60) (.seq (.reg [(.op (some 6) none (.mv (.c (.slice none 0 0)))), (.op (some 7) none
  (.mv (.c (.bool false))))]) .ret) .skip)) (.seq (.reg [(.op (some 61) none (.mv (.t 11))), (.op (some 62) none (.mv (.t 13))), (.op (some 63) none (.cvt .u8 (.t 62))),
  (.op (some 64) none (.bsl 5 1 [(.int .u8 0)] [(0, (1, (.t 63)))])), (.op (some 65) none (.app 5 1 1 (.t 61) (.t 64))), (.op (some 11) none (.mv (.t 65)))]) (.reg [(.op
  (some 66) none (.mv (.t 10))), (.op (some 67) none (.mv (.t 0))), (.op (some 68) none (.mv (.t 13))), (.op (some 69) none (.iad 1 (.t 67) (.t 68))), (.op (some 70)
  none (.ld (.t 69))), (.op (some 71) none (.slc 3 1 (.t 66) (some (.t 70)) none)), (.op (some 10) none (.mv (.t 71)))])))))) (.reg [(.op (some 38) none (.mv (.t 12))),
  (.op (some 39) none (.bin .add (.t 38) (.c (.int .i64 1)))), (.op (some 12) none (.mv (.t 39)))])))
def s24_1 (S : Sys) (e : Fe) (H : Heap) (Q : Kx) : Prop := run S (.bin .lss (.c (e 12)) (.c (e 2))) [] H fun t37_31 H => jn (sq (fun e33 H => jn (sq (fun e35 H => run S
  (.bin .add (.c (e35 12)) (.c (.int .i64 1))) [] H fun t39_36 H => Q .normal (upd (upd (upd e35 38 (e35 12)) 39 t39_36) 12 t39_36) H) Q) fun Q34 => jn (blk 3 Q34) fun
  Q37 => jn (sq (fun e39 H => run S (.bin .lss (.c (e39 13)) (.c (.int .i64 0))) [] H fun t60_40 H => jn (sq (fun e42 H => run S (.cvt .u8 (.c (e42 13))) [] H fun t63_43
  H => run S (.bsl 5 1 [(.int .u8 0)] [(0, (1, (.c t63_43)))]) [] H fun t64_44 H => run S (.app 5 1 1 (.c (e42 11)) (.c t64_44)) [] H fun t65_45 H => run S (.iad 1 (.c
  (e42 0)) (.c (e42 13))) [] H fun t69_46 H => run S (.ld (.c t69_46)) [] H fun t70_47 H => run S (.slc 3 1 (.c (e42 10)) (some (.c t70_47)) none) [] H fun t71_48 H =>
  Q37 .normal (upd (upd (upd (upd (upd (upd (upd (upd (upd (upd (upd (upd (upd e42 61 (e42 11)) 62 (e42 13)) 63 t63_43) 64 t64_44) 65 t65_45) 11 t65_45) 66 (e42 10)) 67
  (e42 0)) 68 (e42 13)) 69 t69_46) 70 t70_47) 71 t71_48) 10 t71_48) H) Q37) fun Q41 => cnd t60_40 (fun Q49 => Q49 .ret (upd (upd (upd (upd e39 59 (e39 13)) 60 t60_40) 6
  (.slice none 0 0)) 7 (.bool false)) H) (fun Q50 => Q50 .normal (upd (upd e39 59 (e39 13)) 60 t60_40) H) Q41) Q37) fun Q38 => jn (blk 4 Q38) fun Q51 => WL S b24_3 (upd
  (upd e33 13 (.int .i64 (-1))) 14 (.int .i64 0)) H Q51) Q) fun Q32 => cnd t37_31 (fun Q52 => Q52 .normal (upd (upd (upd e 35 (e 12)) 36 (e 2)) 37 t37_31) H) (fun Q53 =>
  Q53 (.exit 2) (upd (upd (upd e 35 (e 12)) 36 (e 2)) 37 t37_31) H) Q32
theorem h24_1 (S : Sys) (e : Fe) (H : Heap) (Q : Kx) : wpC S b24_1 e H Q = s24_1 S e H Q := by kernel_rfl
theorem l24_1 (S : Sys) {Q : Kx} (I : Nat → Fe → Heap → Prop) (d : Nat) {e0 : Fe} {H : Heap} (h0 : I d e0 H) (hr : ∀ (d : Nat) (e : Fe) (H : Heap), I d e H → s24_1 S e H
  (sq (fun e' H' => ∃ d', d' < d ∧ I d' e' H') Q)) : WL S b24_1 e0 H Q := WL_inv I d h0 fun d e H hi => (h24_1 S e H _).mpr (hr d e H hi)
theorem u24_1 (S : Sys) {Q : Kx} {e : Fe} {H : Heap} (h : s24_1 S e H (sq (fun e' H' => WL S b24_1 e' H' Q) Q)) : WL S b24_1 e H Q := WL_once ((h24_1 S e H _).mpr h)
def b24_0 : KCode := (.seq (.seq (.reg [(.op (some 72) none (.mv (.t 15))), (.op (some 73) none (.mv (.t 10))), (.op (some 74) none (.lenL (.t 73))), (.op (some 75) none
  (.bin .lss (.t 72) (.t 74)))]) (.cond (.t 75) .skip (.exit 6))) (.seq (.block 7 (.seq (.reg [(.op (some 78) none (.mv (.t 10))), (.op (some 79) none (.mv (.t 15))),
  (.op (some 80) none (.iad 1 (.t 78) (.t 79))), (.op (some 81) none (.ld (.t 80))), (.op (some 82) none (.bin .neq (.t 81) (.c (.int .i64 0)))), (.op (some 83) none
  (.mv (.t 82))), (.op (some 84) (some (83, false)) (.mv (.t 15))), (.op (some 85) (some (83, false)) (.bin .geq (.t 84) (.c (.int .i64 7)))), (.op (some 86) none (.pick
  (.t 83) (.c (.bool true)) (.t 85)))]) (.cond (.t 86) (.seq (.reg [(.op (some 6) none (.mv (.c (.slice none 0 0)))), (.op (some 7) none (.mv (.c (.bool false))))])
  .ret) .skip))) (.reg [(.op (some 76) none (.mv (.t 15))), (.op (some 77) none (.bin .add (.t 76) (.c (.int .i64 1)))), (.op (some 15) none (.mv (.t 77)))])))
def s24_0 (S : Sys) (e : Fe) (H : Heap) (Q : Kx) : Prop := run S (.lenL (.c (e 10))) [] H fun t74_13 H => run S (.bin .lss (.c (e 15)) (.c t74_13)) [] H fun t75_14 H =>
  jn (sq (fun e16 H => jn (sq (fun e18 H => run S (.bin .add (.c (e18 15)) (.c (.int .i64 1))) [] H fun t77_19 H => Q .normal (upd (upd (upd e18 76 (e18 15)) 77 t77_19)
  15 t77_19) H) Q) fun Q17 => run S (.iad 1 (.c (e16 10)) (.c (e16 15))) [] H fun t80_20 H => run S (.ld (.c t80_20)) [] H fun t81_21 H => run S (.bin .neq (.c t81_21)
  (.c (.int .i64 0))) [] H fun t82_22 H => gd t82_22 false (run S (.mv (.c (e16 15))) [] H) H fun t84_23 H => gd t82_22 false (run S (.bin .geq (.c t84_23) (.c (.int
  .i64 7))) [] H) H fun t85_24 H => run S (.pick (.c t82_22) (.c (.bool true)) (.c t85_24)) [] H fun t86_25 H => jn (blk 7 Q17) fun Q26 => cnd t86_25 (fun Q27 => Q27
  .ret (upd (upd (upd (upd (upd (upd (upd (upd (upd (upd (upd e16 78 (e16 10)) 79 (e16 15)) 80 t80_20) 81 t81_21) 82 t82_22) 83 t82_22) 84 t84_23) 85 t85_24) 86 t86_25)
  6 (.slice none 0 0)) 7 (.bool false)) H) (fun Q28 => Q28 .normal (upd (upd (upd (upd (upd (upd (upd (upd (upd e16 78 (e16 10)) 79 (e16 15)) 80 t80_20) 81 t81_21) 82
  t82_22) 83 t82_22) 84 t84_23) 85 t85_24) 86 t86_25) H) Q26) Q) fun Q15 => cnd t75_14 (fun Q29 => Q29 .normal (upd (upd (upd (upd e 72 (e 15)) 73 (e 10)) 74 t74_13) 75
  t75_14) H) (fun Q30 => Q30 (.exit 6) (upd (upd (upd (upd e 72 (e 15)) 73 (e 10)) 74 t74_13) 75 t75_14) H) Q15
theorem h24_0 (S : Sys) (e : Fe) (H : Heap) (Q : Kx) : wpC S b24_0 e H Q = s24_0 S e H Q := by kernel_rfl
theorem l24_0 (S : Sys) {Q : Kx} (I : Nat → Fe → Heap → Prop) (d : Nat) {e0 : Fe} {H : Heap} (h0 : I d e0 H) (hr : ∀ (d : Nat) (e : Fe) (H : Heap), I d e H → s24_0 S e H
  (sq (fun e' H' => ∃ d', d' < d ∧ I d' e' H') Q)) : WL S b24_0 e0 H Q := WL_inv I d h0 fun d e H hi => (h24_0 S e H _).mpr (hr d e H hi)
theorem u24_0 (S : Sys) {Q : Kx} {e : Fe} {H : Heap} (h : s24_0 S e H (sq (fun e' H' => WL S b24_0 e' H' Q) Q)) : WL S b24_0 e H Q := WL_once ((h24_0 S e H _).mpr h)
def s24 (S : Sys) (a0 a1 a2 : Value) (H : Heap) (R : Kv) : Prop := run S (.alloc 95 [(.slice none 0 0), (.slice none 0 0), (.slice none 0 0), (.slice none 0 0), (.slice
  none 0 0), (.slice none 0 0), (.slice none 0 0), (.slice none 0 0), (.slice none 0 0), (.slice none 0 0), (.slice none 0 0), (.slice none 0 0), (.slice none 0 0),
  (.slice none 0 0), (.slice none 0 0), (.slice none 0 0), (.slice none 0 0), (.slice none 0 0), (.slice none 0 0), (.slice none 0 0), (.slice none 0 0), (.slice none 0
  0), (.slice none 0 0), (.slice none 0 0), (.slice none 0 0), (.slice none 0 0), (.slice none 0 0), (.slice none 0 0), (.slice none 0 0), (.slice none 0 0), (.slice
  none 0 0), (.slice none 0 0), (.slice none 0 0), (.slice none 0 0), (.slice none 0 0), (.slice none 0 0), (.slice none 0 0), (.slice none 0 0), (.slice none 0 0),
  (.slice none 0 0), (.slice none 0 0), (.slice none 0 0), (.slice none 0 0), (.slice none 0 0), (.slice none 0 0), (.slice none 0 0), (.slice none 0 0), (.slice none 0
  0), (.slice none 0 0), (.slice none 0 0), (.slice none 0 0), (.slice none 0 0), (.slice none 0 0), (.slice none 0 0), (.slice none 0 0), (.slice none 0 0), (.slice
  none 0 0), (.slice none 0 0), (.slice none 0 0), (.slice none 0 0), (.slice none 0 0), (.slice none 0 0), (.slice none 0 0), (.slice none 0 0), (.slice none 0 0),
  (.slice none 0 0), (.slice none 0 0), (.slice none 0 0), (.slice none 0 0), (.slice none 0 0), (.slice none 0 0), (.slice none 0 0), (.slice none 0 0), (.slice none 0
  0), (.slice none 0 0), (.slice none 0 0), (.slice none 0 0), (.slice none 0 0), (.slice none 0 0), (.slice none 0 0), (.slice none 0 0), (.slice none 0 0), (.slice
  none 0 0), (.slice none 0 0), (.slice none 0 0), (.slice none 0 0), (.slice none 0 0), (.slice none 0 0), (.slice none 0 0), (.slice none 0 0), (.slice none 0 0),
  (.slice none 0 0), (.slice none 0 0), (.slice none 0 0), (.slice none 0 0), (.slice none 0 0), (.slice none 0 0), (.slice none 0 0), (.slice none 0 0), (.slice none 0
  0), (.slice none 0 0), (.slice none 0 0), (.slice none 0 0), (.slice none 0 0), (.slice none 0 0), (.slice none 0 0), (.slice none 0 0), (.slice none 0 0), (.slice
  none 0 0), (.slice none 0 0), (.slice none 0 0), (.slice none 0 0), (.slice none 0 0), (.slice none 0 0), (.slice none 0 0), (.slice none 0 0), (.slice none 0 0),
  (.slice none 0 0), (.slice none 0 0), (.slice none 0 0), (.slice none 0 0), (.slice none 0 0), (.slice none 0 0), (.slice none 0 0), (.slice none 0 0), (.slice none 0
  0), (.slice none 0 0), (.slice none 0 0), (.slice none 0 0), (.slice none 0 0), (.slice none 0 0), (.slice none 0 0), (.slice none 0 0), (.slice none 0 0), (.slice
  none 0 0), (.slice none 0 0), (.slice none 0 0), (.slice none 0 0), (.slice none 0 0), (.slice none 0 0), (.slice none 0 0), (.slice none 0 0), (.slice none 0 0),
  (.slice none 0 0), (.slice none 0 0), (.slice none 0 0), (.slice none 0 0), (.slice none 0 0), (.slice none 0 0), (.slice none 0 0), (.slice none 0 0), (.slice none 0
  0), (.slice none 0 0), (.slice none 0 0), (.slice none 0 0), (.slice none 0 0), (.slice none 0 0), (.slice none 0 0), (.slice none 0 0), (.slice none 0 0), (.slice
  none 0 0), (.slice none 0 0), (.slice none 0 0), (.slice none 0 0), (.slice none 0 0), (.slice none 0 0), (.slice none 0 0), (.slice none 0 0), (.slice none 0 0),
  (.slice none 0 0), (.slice none 0 0), (.slice none 0 0), (.slice none 0 0), (.slice none 0 0), (.slice none 0 0), (.slice none 0 0), (.slice none 0 0), (.slice none 0
  0), (.slice none 0 0), (.slice none 0 0), (.slice none 0 0), (.slice none 0 0), (.slice none 0 0), (.slice none 0 0), (.slice none 0 0), (.slice none 0 0), (.slice
  none 0 0), (.slice none 0 0), (.slice none 0 0), (.slice none 0 0), (.slice none 0 0), (.slice none 0 0), (.slice none 0 0), (.slice none 0 0), (.slice none 0 0),
  (.slice none 0 0), (.slice none 0 0), (.slice none 0 0), (.slice none 0 0), (.slice none 0 0), (.slice none 0 0), (.slice none 0 0), (.slice none 0 0), (.slice none 0
  0), (.slice none 0 0), (.slice none 0 0), (.slice none 0 0), (.slice none 0 0), (.slice none 0 0), (.slice none 0 0), (.slice none 0 0), (.slice none 0 0), (.slice
  none 0 0), (.slice none 0 0), (.slice none 0 0), (.slice none 0 0), (.slice none 0 0), (.slice none 0 0), (.slice none 0 0), (.slice none 0 0), (.slice none 0 0),
  (.slice none 0 0), (.slice none 0 0), (.slice none 0 0), (.slice none 0 0), (.slice none 0 0), (.slice none 0 0), (.slice none 0 0), (.slice none 0 0), (.slice none 0
  0), (.slice none 0 0), (.slice none 0 0), (.slice none 0 0), (.slice none 0 0), (.slice none 0 0), (.slice none 0 0), (.slice none 0 0), (.slice none 0 0), (.slice
  none 0 0), (.slice none 0 0), (.slice none 0 0), (.slice none 0 0), (.slice none 0 0), (.slice none 0 0), (.slice none 0 0), (.slice none 0 0), (.slice none 0 0),
  (.slice none 0 0), (.slice none 0 0), (.slice none 0 0), (.slice none 0 0), (.slice none 0 0), (.slice none 0 0), (.slice none 0 0), (.slice none 0 0), (.slice none 0
  0)]) [] H fun t8_1 H => jn (sq (fun e3 H => run S (.s2b 5 (.c (e3 1))) [] H fun t33_4 H => run S (.call 68 [(.c t33_4)]) [] H fun t34_5 H => jn (sq (fun e7 H => jn (sq
  (fun e9 H => R (tup [(e9 11), (.bool true)]) H) (fn [(.t 6), (.t 7)] R)) fun Q8 => jn (blk 6 Q8) fun Q10 => WL S b24_0 (upd e7 15 (.int .i64 0)) H Q10) (fn [(.t 6),
  (.t 7)] R)) fun Q6 => jn (blk 2 Q6) fun Q11 => WL S b24_1 (upd (upd (upd (upd (upd (upd e3 32 (e3 1)) 33 t33_4) 34 t34_5) 10 t34_5) 11 (.slice none 0 0)) 12 (.int .i64
  0)) H Q11) (fn [(.t 6), (.t 7)] R)) fun Q2 => jn (blk 0 Q2) fun Q12 => WL S b24_2 (upd (upd (upd (upd (Env.get [a0, a1, a2]) 6 (.slice none 0 0)) 7 (.bool false)) 8
  t8_1) 9 (.int .i64 0)) H Q12
theorem h24 (S : Sys) (a0 a1 a2 : Value) (H : Heap) (R : Kv) : wpC S k24.body (Env.get [a0, a1, a2]) H (fn [(.t 6), (.t 7)] R) = s24 S a0 a1 a2 H R := by kernel_rfl
theorem w24 {S : Sys} (hR : S.R 24 = none) (hF : S.F 24 = some k24) (a0 a1 a2 : Value) {H : Heap} {R : Kv} (h : s24 S a0 a1 a2 H R) : Wf S 24 [a0, a1, a2] H R := Wf_sh
  hR hF ((h24 S a0 a1 a2 H R).mpr h)
def b25_0 : KCode := (.seq (.reg [(.op (some 21) none (.bin .lss (.t 20) (.t 19)))]) (.seq (.cond (.t 21) .skip (.exit 0)) (.seq (.block 1 (.seq (.reg [(.op (some 22)
  none (.iad 1 (.t 18) (.t 20))), (.op (some 23) none (.ld (.t 22))), (.op (some 10) none (.mv (.t 23)))]) (.seq (.seq (.reg [(.op (some 24) none (.mv (.t 10))), (.op
  (some 25) none (.cvt .i64 (.t 24))), (.op (some 26) none (.mv (.t 0))), (.op (some 27) none (.lenL (.t 26))), (.op (some 28) none (.bin .geq (.t 25) (.t 27))), (.op
  (some 29) none (.mv (.t 28))), (.op (some 30) (some (29, false)) (.mv (.t 0))), (.op (some 31) (some (29, false)) (.mv (.t 10))), (.op (some 32) (some (29, false))
  (.iad 1 (.t 30) (.t 31))), (.op (some 33) (some (29, false)) (.ld (.t 32))), (.op (some 34) (some (29, false)) (.bin .eql (.t 33) (.c (.int .i64 0)))), (.op (some 35)
  none (.pick (.t 29) (.c (.bool true)) (.t 34)))]) (.cond (.t 35) (.seq (.reg [(.op (some 4) none (.mv (.c (.string (bs []))))), (.op (some 5) none (.mv (.c (.bool
  false))))]) .ret) .skip)) (.reg [(.op (some 36) none (.mv (.t 6))), (.op (some 37) none (.mv (.t 10))), (.op (some 38) none (.iad 1 (.t 36) (.t 37))), (.op (some 39)
  none (.ld (.t 38))), (.op (some 40) none (.mv (.t 0))), (.op (some 41) none (.mv (.t 10))), (.op (some 42) none (.iad 1 (.t 40) (.t 41))), (.op (some 43) none (.ld (.t
  42))), (.op (some 45) none (.mv (.t 0))), (.op (some 46) none (.mv (.t 10))), (.op (some 47) none (.iad 1 (.t 45) (.t 46))), (.op (some 48) none (.ld (.t 47))), (.op
  (some 44) none (.call 72 [(.t 39), (.t 43)])), (.chk 48 none (.ld (.t 47))), (.op (some 49) none (.call 71 [(.t 8), (.t 44), (.t 48)]))])))) (.reg [(.op (some 50) none
  (.bin .add (.t 20) (.c (.int .i64 1)))), (.op (some 20) none (.mv (.t 50)))]))))
def s25_0 (S : Sys) (e : Fe) (H : Heap) (Q : Kx) : Prop := run S (.bin .lss (.c (e 20)) (.c (e 19))) [] H fun t21_16 H => jn (sq (fun e18 H => jn (sq (fun e20 H => run S
  (.bin .add (.c (e20 20)) (.c (.int .i64 1))) [] H fun t50_21 H => Q .normal (upd (upd e20 50 t50_21) 20 t50_21) H) Q) fun Q19 => run S (.iad 1 (.c (e18 18)) (.c (e18
  20))) [] H fun t22_22 H => run S (.ld (.c t22_22)) [] H fun t23_23 H => run S (.cvt .i64 (.c t23_23)) [] H fun t25_24 H => run S (.lenL (.c (e18 0))) [] H fun t27_25 H
  => run S (.bin .geq (.c t25_24) (.c t27_25)) [] H fun t28_26 H => gd t28_26 false (run S (.mv (.c (e18 0))) [] H) H fun t30_27 H => gd t28_26 false (run S (.mv (.c
  t23_23)) [] H) H fun t31_28 H => gd t28_26 false (run S (.iad 1 (.c t30_27) (.c t31_28)) [] H) H fun t32_29 H => gd t28_26 false (run S (.ld (.c t32_29)) [] H) H fun
  t33_30 H => gd t28_26 false (run S (.bin .eql (.c t33_30) (.c (.int .i64 0))) [] H) H fun t34_31 H => run S (.pick (.c t28_26) (.c (.bool true)) (.c t34_31)) [] H fun
  t35_32 H => jn (blk 1 Q19) fun Q33 => jn (sq (fun e35 H => run S (.iad 1 (.c (e35 6)) (.c (e35 10))) [] H fun t38_36 H => run S (.ld (.c t38_36)) [] H fun t39_37 H =>
  run S (.iad 1 (.c (e35 0)) (.c (e35 10))) [] H fun t42_38 H => run S (.ld (.c t42_38)) [] H fun t43_39 H => run S (.iad 1 (.c (e35 0)) (.c (e35 10))) [] H fun t47_40 H
  => run S (.ld (.c t47_40)) [] H fun t48_41 H => run S (.call 72 [(.c t39_37), (.c t43_39)]) [] H fun t44_42 H => ck (kop (.ld (.c t47_40)) [] H) t48_41 (run S (.call
  71 [(.c (e35 8)), (.c t44_42), (.c t48_41)]) [] H fun t49_43 H => Q33 .normal (upd (upd (upd (upd (upd (upd (upd (upd (upd (upd (upd (upd (upd (upd e35 36 (e35 6)) 37
  (e35 10)) 38 t38_36) 39 t39_37) 40 (e35 0)) 41 (e35 10)) 42 t42_38) 43 t43_39) 45 (e35 0)) 46 (e35 10)) 47 t47_40) 48 t48_41) 44 t44_42) 49 t49_43) H)) Q33) fun Q34 =>
  cnd t35_32 (fun Q44 => Q44 .ret (upd (upd (upd (upd (upd (upd (upd (upd (upd (upd (upd (upd (upd (upd (upd (upd (upd e18 22 t22_22) 23 t23_23) 10 t23_23) 24 t23_23) 25
  t25_24) 26 (e18 0)) 27 t27_25) 28 t28_26) 29 t28_26) 30 t30_27) 31 t31_28) 32 t32_29) 33 t33_30) 34 t34_31) 35 t35_32) 4 (.string (bs []))) 5 (.bool false)) H) (fun
  Q45 => Q45 .normal (upd (upd (upd (upd (upd (upd (upd (upd (upd (upd (upd (upd (upd (upd (upd e18 22 t22_22) 23 t23_23) 10 t23_23) 24 t23_23) 25 t25_24) 26 (e18 0)) 27
  t27_25) 28 t28_26) 29 t28_26) 30 t30_27) 31 t31_28) 32 t32_29) 33 t33_30) 34 t34_31) 35 t35_32) H) Q34) Q) fun Q17 => cnd t21_16 (fun Q46 => Q46 .normal (upd e 21
  t21_16) H) (fun Q47 => Q47 (.exit 0) (upd e 21 t21_16) H) Q17
theorem h25_0 (S : Sys) (e : Fe) (H : Heap) (Q : Kx) : wpC S b25_0 e H Q = s25_0 S e H Q := by kernel_rfl
theorem l25_0 (S : Sys) {Q : Kx} (I : Nat → Fe → Heap → Prop) (d : Nat) {e0 : Fe} {H : Heap} (h0 : I d e0 H) (hr : ∀ (d : Nat) (e : Fe) (H : Heap), I d e H → s25_0 S e H
  (sq (fun e' H' => ∃ d', d' < d ∧ I d' e' H') Q)) : WL S b25_0 e0 H Q := WL_inv I d h0 fun d e H hi => (h25_0 S e H _).mpr (hr d e H hi)
theorem u25_0 (S : Sys) {Q : Kx} {e : Fe} {H : Heap} (h : s25_0 S e H (sq (fun e' H' => WL S b25_0 e' H' Q) Q)) : WL S b25_0 e H Q := WL_once ((h25_0 S e H _).mpr h)
def s25 (S : Sys) (a0 a1 : Value) (H : Heap) (R : Kv) : Prop := run S (.call 70 [(.c a0)]) [] H fun t13_1 H => run S (.xt (.c t13_1) 0) [] H fun t14_2 H => run S (.xt
  (.c t13_1) 1) [] H fun t15_3 H => run S (.un .not (.c t15_3)) [] H fun t17_4 H => jn (sq (fun e6 H => run S (.alloc 99 [(.slice none 0 0), (.int .i64 0)]) [] H fun
  t8_7 H => run S (.lenL (.c (e6 1))) [] H fun t19_8 H => jn (sq (fun e10 H => run S (.call 73 [(.c (e10 8))]) [] H fun t51_11 H => run S (.b2s 5 (.c t51_11)) [] H fun
  t52_12 H => R (tup [t52_12, (.bool true)]) H) (fn [(.t 4), (.t 5)] R)) fun Q9 => jn (blk 0 Q9) fun Q13 => WL S b25_0 (upd (upd (upd (upd e6 8 t8_7) 18 (e6 1)) 19
  t19_8) 20 (.int .i64 0)) H Q13) (fn [(.t 4), (.t 5)] R)) fun Q5 => cnd t17_4 (fun Q14 => Q14 .ret (upd (upd (upd (upd (upd (upd (upd (upd (upd (upd (upd (upd (upd
  (Env.get [a0, a1]) 4 (.string (bs []))) 5 (.bool false)) 12 a0) 13 t13_1) 11 t13_1) 14 t14_2) 15 t15_3) 6 t14_2) 7 t15_3) 16 t15_3) 17 t17_4) 4 (.string (bs []))) 5
  (.bool false)) H) (fun Q15 => Q15 .normal (upd (upd (upd (upd (upd (upd (upd (upd (upd (upd (upd (Env.get [a0, a1]) 4 (.string (bs []))) 5 (.bool false)) 12 a0) 13
  t13_1) 11 t13_1) 14 t14_2) 15 t15_3) 6 t14_2) 7 t15_3) 16 t15_3) 17 t17_4) H) Q5
theorem h25 (S : Sys) (a0 a1 : Value) (H : Heap) (R : Kv) : wpC S k25.body (Env.get [a0, a1]) H (fn [(.t 4), (.t 5)] R) = s25 S a0 a1 H R := by kernel_rfl
theorem w25 {S : Sys} (hR : S.R 25 = none) (hF : S.F 25 = some k25) (a0 a1 : Value) {H : Heap} {R : Kv} (h : s25 S a0 a1 H R) : Wf S 25 [a0, a1] H R := Wf_sh hR hF ((h25
  S a0 a1 H R).mpr h)
def b26_0 : KCode := (.seq (.seq (.reg [(.op (some 18) none (.mv (.t 6))), (.op (some 19) none (.mv (.t 4))), (.op (some 20) none (.lenL (.t 19))), (.op (some 21) none
  (.bin .lss (.t 18) (.t 20)))]) (.cond (.t 21) .skip (.exit 0))) (.seq (.block 1 (.seq (.reg [(.op (some 24) none (.mv (.t 4))), (.op (some 25) none (.mv (.t 6))), (.op
  (some 26) none (.iad 1 (.t 24) (.t 25))), (.op (some 27) none (.ld (.t 26))), (.op (some 28) none (.cvt .u8 (.t 27))), (.op (some 7) none (.mv (.t 28)))]) (.seq (.seq
  (.reg [(.op (some 29) none (.mv (.t 6))), (.op (some 30) none (.bin .add (.t 29) (.c (.int .i64 1)))), (.op (some 31) none (.mv (.t 4))), (.op (some 32) none (.lenL
  (.t 31))), (.op (some 33) none (.bin .lss (.t 30) (.t 32)))]) (.cond (.t 33) (.reg [(.op (some 34) none (.mv (.t 7))), (.op (some 35) none (.mv (.t 4))), (.op (some
  36) none (.mv (.t 6))), (.op (some 37) none (.bin .add (.t 36) (.c (.int .i64 1)))), (.op (some 38) none (.iad 1 (.t 35) (.t 37))), (.op (some 39) none (.ld (.t 38))),
  (.op (some 40) none (.cvt .u8 (.t 39))), (.op (some 41) none (.bin .shl (.t 40) (.c (.int .u64 4)))), (.op (some 42) none (.bin .or (.t 34) (.t 41))), (.op (some 7)
  none (.mv (.t 42)))]) .skip)) (.reg [(.op (some 43) none (.mv (.t 5))), (.op (some 44) none (.mv (.t 7))), (.op (some 45) none (.bsl 5 1 [(.int .u8 0)] [(0, (1, (.t
  44)))])), (.op (some 46) none (.app 5 1 1 (.t 43) (.t 45))), (.op (some 5) none (.mv (.t 46)))])))) (.reg [(.op (some 22) none (.mv (.t 6))), (.op (some 23) none (.bin
  .add (.t 22) (.c (.int .i64 2)))), (.op (some 6) none (.mv (.t 23)))])))
def s26_0 (S : Sys) (e : Fe) (H : Heap) (Q : Kx) : Prop := run S (.lenL (.c (e 4))) [] H fun t20_16 H => run S (.bin .lss (.c (e 6)) (.c t20_16)) [] H fun t21_17 H => jn
  (sq (fun e19 H => jn (sq (fun e21 H => run S (.bin .add (.c (e21 6)) (.c (.int .i64 2))) [] H fun t23_22 H => Q .normal (upd (upd (upd e21 22 (e21 6)) 23 t23_22) 6
  t23_22) H) Q) fun Q20 => run S (.iad 1 (.c (e19 4)) (.c (e19 6))) [] H fun t26_23 H => run S (.ld (.c t26_23)) [] H fun t27_24 H => run S (.cvt .u8 (.c t27_24)) [] H
  fun t28_25 H => run S (.bin .add (.c (e19 6)) (.c (.int .i64 1))) [] H fun t30_26 H => run S (.lenL (.c (e19 4))) [] H fun t32_27 H => run S (.bin .lss (.c t30_26) (.c
  t32_27)) [] H fun t33_28 H => jn (blk 1 Q20) fun Q29 => jn (sq (fun e31 H => run S (.bsl 5 1 [(.int .u8 0)] [(0, (1, (.c (e31 7))))]) [] H fun t45_32 H => run S (.app
  5 1 1 (.c (e31 5)) (.c t45_32)) [] H fun t46_33 H => Q29 .normal (upd (upd (upd (upd (upd e31 43 (e31 5)) 44 (e31 7)) 45 t45_32) 46 t46_33) 5 t46_33) H) Q29) fun Q30
  => cnd t33_28 (fun Q34 => run S (.bin .add (.c (e19 6)) (.c (.int .i64 1))) [] H fun t37_36 H => run S (.iad 1 (.c (e19 4)) (.c t37_36)) [] H fun t38_37 H => run S
  (.ld (.c t38_37)) [] H fun t39_38 H => run S (.cvt .u8 (.c t39_38)) [] H fun t40_39 H => run S (.bin .shl (.c t40_39) (.c (.int .u64 4))) [] H fun t41_40 H => run S
  (.bin .or (.c t28_25) (.c t41_40)) [] H fun t42_41 H => Q34 .normal (upd (upd (upd (upd (upd (upd (upd (upd (upd (upd (upd (upd (upd (upd (upd (upd (upd (upd (upd (upd
  (upd e19 24 (e19 4)) 25 (e19 6)) 26 t26_23) 27 t27_24) 28 t28_25) 7 t28_25) 29 (e19 6)) 30 t30_26) 31 (e19 4)) 32 t32_27) 33 t33_28) 34 t28_25) 35 (e19 4)) 36 (e19 6))
  37 t37_36) 38 t38_37) 39 t39_38) 40 t40_39) 41 t41_40) 42 t42_41) 7 t42_41) H) (fun Q35 => Q35 .normal (upd (upd (upd (upd (upd (upd (upd (upd (upd (upd (upd e19 24
  (e19 4)) 25 (e19 6)) 26 t26_23) 27 t27_24) 28 t28_25) 7 t28_25) 29 (e19 6)) 30 t30_26) 31 (e19 4)) 32 t32_27) 33 t33_28) H) Q30) Q) fun Q18 => cnd t21_17 (fun Q42 =>
  Q42 .normal (upd (upd (upd (upd e 18 (e 6)) 19 (e 4)) 20 t20_16) 21 t21_17) H) (fun Q43 => Q43 (.exit 0) (upd (upd (upd (upd e 18 (e 6)) 19 (e 4)) 20 t20_16) 21
  t21_17) H) Q18
theorem h26_0 (S : Sys) (e : Fe) (H : Heap) (Q : Kx) : wpC S b26_0 e H Q = s26_0 S e H Q := by kernel_rfl
theorem l26_0 (S : Sys) {Q : Kx} (I : Nat → Fe → Heap → Prop) (d : Nat) {e0 : Fe} {H : Heap} (h0 : I d e0 H) (hr : ∀ (d : Nat) (e : Fe) (H : Heap), I d e H → s26_0 S e H
  (sq (fun e' H' => ∃ d', d' < d ∧ I d' e' H') Q)) : WL S b26_0 e0 H Q := WL_inv I d h0 fun d e H hi => (h26_0 S e H _).mpr (hr d e H hi)
theorem u26_0 (S : Sys) {Q : Kx} {e : Fe} {H : Heap} (h : s26_0 S e H (sq (fun e' H' => WL S b26_0 e' H' Q) Q)) : WL S b26_0 e H Q := WL_once ((h26_0 S e H _).mpr h)
def s26 (S : Sys) (a0 : Value) (H : Heap) (R : Kv) : Prop := run S (.call 61 [(.c a0)]) [] H fun t9_1 H => run S (.un .not (.c t9_1)) [] H fun t10_2 H => jn (sq (fun e4
  H => run S (.call 74 [(.c (e4 0))]) [] H fun t12_5 H => run S (.lenL (.c t12_5)) [] H fun t14_6 H => run S (.bin .sub (.c t14_6) (.c (.int .i64 1))) [] H fun t15_7 H
  => run S (.cvt .u8 (.c t15_7)) [] H fun t16_8 H => run S (.bsl 5 1 [(.int .u8 0)] [(0, (1, (.c t16_8)))]) [] H fun t17_9 H => jn (sq (fun e11 H => run S (.b2s 5 (.c
  (e11 5))) [] H fun t48_12 H => R (tup [t48_12, (.bool true)]) H) (fn [(.t 2), (.t 3)] R)) fun Q10 => jn (blk 0 Q10) fun Q13 => WL S b26_0 (upd (upd (upd (upd (upd (upd
  (upd (upd (upd (upd e4 11 (e4 0)) 12 t12_5) 4 t12_5) 13 t12_5) 14 t14_6) 15 t15_7) 16 t16_8) 17 t17_9) 5 t17_9) 6 (.int .i64 0)) H Q13) (fn [(.t 2), (.t 3)] R)) fun Q3
  => cnd t10_2 (fun Q14 => Q14 .ret (upd (upd (upd (upd (upd (upd (upd (Env.get [a0]) 2 (.string (bs []))) 3 (.bool false)) 8 a0) 9 t9_1) 10 t10_2) 2 (.string (bs [])))
  3 (.bool false)) H) (fun Q15 => Q15 .normal (upd (upd (upd (upd (upd (Env.get [a0]) 2 (.string (bs []))) 3 (.bool false)) 8 a0) 9 t9_1) 10 t10_2) H) Q3
theorem h26 (S : Sys) (a0 : Value) (H : Heap) (R : Kv) : wpC S k26.body (Env.get [a0]) H (fn [(.t 2), (.t 3)] R) = s26 S a0 H R := by kernel_rfl
theorem w26 {S : Sys} (hR : S.R 26 = none) (hF : S.F 26 = some k26) (a0 : Value) {H : Heap} {R : Kv} (h : s26 S a0 H R) : Wf S 26 [a0] H R := Wf_sh hR hF ((h26 S a0 H
  R).mpr h)
def b27_0 : KCode := (.seq (.seq (.reg [(.op (some 8) none (.mv (.t 7))), (.op (some 9) none (.mv (.t 1))), (.op (some 10) none (.lenL (.t 9))), (.op (some 11) none
  (.bin .lss (.t 8) (.t 10)))]) (.cond (.t 11) .skip (.exit 0))) (.seq (.block 1 (.seq (.seq (.reg [(.op (some 14) none (.mv (.t 1))), (.op (some 15) none (.mv (.t 7))),
  (.op (some 16) none (.iad 1 (.t 14) (.t 15))), (.op (some 17) none (.ld (.t 16))), (.op (some 18) none (.cvt .i64 (.t 17))), (.op (some 19) none (.mv (.t 0))), (.op
  (some 20) none (.lenL (.t 19))), (.op (some 21) none (.bin .geq (.t 18) (.t 20))), (.op (some 22) none (.mv (.t 21))), (.op (some 23) (some (22, false)) (.mv (.t 0))),
  (.op (some 24) (some (22, false)) (.mv (.t 1))), (.op (some 25) (some (22, false)) (.mv (.t 7))), (.op (some 26) (some (22, false)) (.iad 1 (.t 24) (.t 25))), (.op
  (some 27) (some (22, false)) (.ld (.t 26))), (.op (some 28) (some (22, false)) (.iad 1 (.t 23) (.t 27))), (.op (some 29) (some (22, false)) (.ld (.t 28))), (.op (some
  30) (some (22, false)) (.bin .eql (.t 29) (.c (.int .i64 0)))), (.op (some 31) none (.pick (.t 22) (.c (.bool true)) (.t 30)))]) (.cond (.t 31) (.seq (.reg [(.op (some
  4) none (.mv (.c (.string (bs []))))), (.op (some 5) none (.mv (.c (.bool false))))]) .ret) .skip)) (.reg [(.op (some 32) none (.mv (.t 6))), (.op (some 33) none (.mv
  (.t 0))), (.op (some 34) none (.mv (.t 1))), (.op (some 35) none (.mv (.t 7))), (.op (some 36) none (.iad 1 (.t 34) (.t 35))), (.op (some 37) none (.ld (.t 36))), (.op
  (some 38) none (.cvt .i64 (.t 37))), (.op (some 39) none (.call 67 [(.t 33), (.t 38)])), (.op (some 40) none (.app 3 1 8 (.t 32) (.t 39))), (.op (some 6) none (.mv (.t
  40)))]))) (.reg [(.op (some 12) none (.mv (.t 7))), (.op (some 13) none (.bin .add (.t 12) (.c (.int .i64 1)))), (.op (some 7) none (.mv (.t 13)))])))
def s27_0 (S : Sys) (e : Fe) (H : Heap) (Q : Kx) : Prop := run S (.lenL (.c (e 1))) [] H fun t10_6 H => run S (.bin .lss (.c (e 7)) (.c t10_6)) [] H fun t11_7 H => jn
  (sq (fun e9 H => jn (sq (fun e11 H => run S (.bin .add (.c (e11 7)) (.c (.int .i64 1))) [] H fun t13_12 H => Q .normal (upd (upd (upd e11 12 (e11 7)) 13 t13_12) 7
  t13_12) H) Q) fun Q10 => run S (.iad 1 (.c (e9 1)) (.c (e9 7))) [] H fun t16_13 H => run S (.ld (.c t16_13)) [] H fun t17_14 H => run S (.cvt .i64 (.c t17_14)) [] H
  fun t18_15 H => run S (.lenL (.c (e9 0))) [] H fun t20_16 H => run S (.bin .geq (.c t18_15) (.c t20_16)) [] H fun t21_17 H => gd t21_17 false (run S (.mv (.c (e9 0)))
  [] H) H fun t23_18 H => gd t21_17 false (run S (.mv (.c (e9 1))) [] H) H fun t24_19 H => gd t21_17 false (run S (.mv (.c (e9 7))) [] H) H fun t25_20 H => gd t21_17
  false (run S (.iad 1 (.c t24_19) (.c t25_20)) [] H) H fun t26_21 H => gd t21_17 false (run S (.ld (.c t26_21)) [] H) H fun t27_22 H => gd t21_17 false (run S (.iad 1
  (.c t23_18) (.c t27_22)) [] H) H fun t28_23 H => gd t21_17 false (run S (.ld (.c t28_23)) [] H) H fun t29_24 H => gd t21_17 false (run S (.bin .eql (.c t29_24) (.c
  (.int .i64 0))) [] H) H fun t30_25 H => run S (.pick (.c t21_17) (.c (.bool true)) (.c t30_25)) [] H fun t31_26 H => jn (blk 1 Q10) fun Q27 => jn (sq (fun e29 H => run
  S (.iad 1 (.c (e29 1)) (.c (e29 7))) [] H fun t36_30 H => run S (.ld (.c t36_30)) [] H fun t37_31 H => run S (.cvt .i64 (.c t37_31)) [] H fun t38_32 H => run S (.call
  67 [(.c (e29 0)), (.c t38_32)]) [] H fun t39_33 H => run S (.app 3 1 8 (.c (e29 6)) (.c t39_33)) [] H fun t40_34 H => Q27 .normal (upd (upd (upd (upd (upd (upd (upd
  (upd (upd (upd e29 32 (e29 6)) 33 (e29 0)) 34 (e29 1)) 35 (e29 7)) 36 t36_30) 37 t37_31) 38 t38_32) 39 t39_33) 40 t40_34) 6 t40_34) H) Q27) fun Q28 => cnd t31_26 (fun
  Q35 => Q35 .ret (upd (upd (upd (upd (upd (upd (upd (upd (upd (upd (upd (upd (upd (upd (upd (upd (upd (upd (upd (upd e9 14 (e9 1)) 15 (e9 7)) 16 t16_13) 17 t17_14) 18
  t18_15) 19 (e9 0)) 20 t20_16) 21 t21_17) 22 t21_17) 23 t23_18) 24 t24_19) 25 t25_20) 26 t26_21) 27 t27_22) 28 t28_23) 29 t29_24) 30 t30_25) 31 t31_26) 4 (.string (bs
  []))) 5 (.bool false)) H) (fun Q36 => Q36 .normal (upd (upd (upd (upd (upd (upd (upd (upd (upd (upd (upd (upd (upd (upd (upd (upd (upd (upd e9 14 (e9 1)) 15 (e9 7)) 16
  t16_13) 17 t17_14) 18 t18_15) 19 (e9 0)) 20 t20_16) 21 t21_17) 22 t21_17) 23 t23_18) 24 t24_19) 25 t25_20) 26 t26_21) 27 t27_22) 28 t28_23) 29 t29_24) 30 t30_25) 31
  t31_26) H) Q28) Q) fun Q8 => cnd t11_7 (fun Q37 => Q37 .normal (upd (upd (upd (upd e 8 (e 7)) 9 (e 1)) 10 t10_6) 11 t11_7) H) (fun Q38 => Q38 (.exit 0) (upd (upd (upd
  (upd e 8 (e 7)) 9 (e 1)) 10 t10_6) 11 t11_7) H) Q8
theorem h27_0 (S : Sys) (e : Fe) (H : Heap) (Q : Kx) : wpC S b27_0 e H Q = s27_0 S e H Q := by kernel_rfl
theorem l27_0 (S : Sys) {Q : Kx} (I : Nat → Fe → Heap → Prop) (d : Nat) {e0 : Fe} {H : Heap} (h0 : I d e0 H) (hr : ∀ (d : Nat) (e : Fe) (H : Heap), I d e H → s27_0 S e H
  (sq (fun e' H' => ∃ d', d' < d ∧ I d' e' H') Q)) : WL S b27_0 e0 H Q := WL_inv I d h0 fun d e H hi => (h27_0 S e H _).mpr (hr d e H hi)
theorem u27_0 (S : Sys) {Q : Kx} {e : Fe} {H : Heap} (h : s27_0 S e H (sq (fun e' H' => WL S b27_0 e' H' Q) Q)) : WL S b27_0 e H Q := WL_once ((h27_0 S e H _).mpr h)
def s27 (S : Sys) (a0 a1 : Value) (H : Heap) (R : Kv) : Prop := jn (sq (fun e2 H => run S (.call 75 [(.c (e2 6))]) [] H fun t42_3 H => run S (.b2s 5 (.c t42_3)) [] H fun
  t43_4 H => R (tup [t43_4, (.bool true)]) H) (fn [(.t 4), (.t 5)] R)) fun Q1 => jn (blk 0 Q1) fun Q5 => WL S b27_0 (upd (upd (upd (upd (Env.get [a0, a1]) 4 (.string (bs
  []))) 5 (.bool false)) 6 (.slice none 0 0)) 7 (.int .i64 0)) H Q5
theorem h27 (S : Sys) (a0 a1 : Value) (H : Heap) (R : Kv) : wpC S k27.body (Env.get [a0, a1]) H (fn [(.t 4), (.t 5)] R) = s27 S a0 a1 H R := by kernel_rfl
theorem w27 {S : Sys} (hR : S.R 27 = none) (hF : S.F 27 = some k27) (a0 a1 : Value) {H : Heap} {R : Kv} (h : s27 S a0 a1 H R) : Wf S 27 [a0, a1] H R := Wf_sh hR hF ((h27
  S a0 a1 H R).mpr h)
end Go.Proofs.Ytlboioplemlneaa.K
