/- The functions as nested words with named values, each held against its code by the kernel. Printed by a program of this work (sh.py). -/
import Derived.Test.YtlboioplemlneaaKLowSh2
set_option maxRecDepth 100000
set_option linter.unusedVariables false
namespace Go.Proofs.Ytlboioplemlneaa.K
open Go Go.Proofs
def s38 (S : Sys) (a0 : Value) (H : Heap) (R : Kv) : Prop := run S (.call 87 [(.c a0)]) [] H fun t9_1 H => run S (.un .not (.c t9_1)) [] H fun t10_2 H => jn (sq (fun e4
  H => run S (.call 88 [(.c (e4 0))]) [] H fun t13_5 H => run S (.xt (.c t13_5) 0) [] H fun t14_6 H => run S (.xt (.c t13_5) 1) [] H fun t15_7 H => run S (.lenL (.c (e4
  0))) [] H fun t17_8 H => run S (.mks 3 [(.int .i64 0)] 8 (.c t17_8) (.c t17_8)) [] H fun t18_9 H => run S (.alloc 38 [(.slice none 0 0)]) [] H fun t6_10 H => run S
  (.st (.c t6_10) (.c t18_9)) [] H fun _ H => run S (.nck (.c t14_6)) [] H fun t20_11 H => run S (.fad 2 (.c t20_11)) [] H fun t21_12 H => run S (.ld (.c t21_12)) [] H
  fun t22_13 H => run S (.bin .geq (.c t22_13) (.c (.int .i64 0))) [] H fun t23_14 H => jn (sq (fun e16 H => run S (.alloc 3 [(.int .i64 0)]) [] H fun t7_17 H => run S
  (.st (.c t7_17) (.c (.int .i64 0))) [] H fun _ H => run S (.mkf (.func 90) [] [(.c (e16 6)), (.c t7_17)]) [] H fun t32_18 H => run S (.call 89 [(.c (e16 4)), (.c (.int
  .i64 0)), (.c t32_18)]) [] H fun t33_19 H => run S (.ld (.c t7_17)) [] H fun t34_20 H => run S (.bin .gtr (.c t34_20) (.c (.int .i64 11))) [] H fun t35_21 H => jn (sq
  (fun e23 H => run S (.ld (.c (e23 6))) [] H fun t38_24 H => R (tup [t38_24, (.bool true)]) H) (fn [(.t 2), (.t 3)] R)) fun Q22 => cnd t35_21 (fun Q25 => run S (.call
  91 [(.c (e16 0))]) [] H fun t37_27 H => Q25 .ret (upd (upd (upd (upd (upd (upd (upd (upd (upd (upd e16 7 t7_17) 31 (e16 4)) 32 t32_18) 33 t33_19) 34 t34_20) 35 t35_21)
  36 (e16 0)) 37 t37_27) 2 t37_27) 3 (.bool true)) H) (fun Q26 => Q26 .normal (upd (upd (upd (upd (upd (upd e16 7 t7_17) 31 (e16 4)) 32 t32_18) 33 t33_19) 34 t34_20) 35
  t35_21) H) Q22) (fn [(.t 2), (.t 3)] R)) fun Q15 => cnd t23_14 (fun Q28 => run S (.ld (.c t6_10)) [] H fun t24_30 H => run S (.nck (.c t14_6)) [] H fun t26_31 H => run
  S (.fad 2 (.c t26_31)) [] H fun t27_32 H => run S (.ld (.c t27_32)) [] H fun t28_33 H => run S (.iad 1 (.c t24_30) (.c t28_33)) [] H fun t29_34 H => run S (.st (.c
  t29_34) (.c (.int .i64 1))) [] H fun _ H => run S (.ld (.c t6_10)) [] H fun t30_35 H => Q28 .ret (upd (upd (upd (upd (upd (upd (upd (upd (upd (upd (upd (upd (upd (upd
  (upd (upd (upd (upd (upd (upd (upd (upd (upd (upd (upd e4 12 (e4 0)) 13 t13_5) 11 t13_5) 14 t14_6) 15 t15_7) 4 t14_6) 5 t15_7) 16 (e4 0)) 17 t17_8) 18 t18_9) 6 t6_10)
  19 t14_6) 20 t20_11) 21 t21_12) 22 t22_13) 23 t23_14) 24 t24_30) 25 t14_6) 26 t26_31) 27 t27_32) 28 t28_33) 29 t29_34) 30 t30_35) 2 t30_35) 3 (.bool true)) H) (fun Q29
  => Q29 .normal (upd (upd (upd (upd (upd (upd (upd (upd (upd (upd (upd (upd (upd (upd (upd (upd e4 12 (e4 0)) 13 t13_5) 11 t13_5) 14 t14_6) 15 t15_7) 4 t14_6) 5 t15_7)
  16 (e4 0)) 17 t17_8) 18 t18_9) 6 t6_10) 19 t14_6) 20 t20_11) 21 t21_12) 22 t22_13) 23 t23_14) H) Q15) (fn [(.t 2), (.t 3)] R)) fun Q3 => cnd t10_2 (fun Q36 => Q36 .ret
  (upd (upd (upd (upd (upd (upd (upd (Env.get [a0]) 2 (.slice none 0 0)) 3 (.bool false)) 8 a0) 9 t9_1) 10 t10_2) 2 (.slice none 0 0)) 3 (.bool false)) H) (fun Q37 =>
  Q37 .normal (upd (upd (upd (upd (upd (Env.get [a0]) 2 (.slice none 0 0)) 3 (.bool false)) 8 a0) 9 t9_1) 10 t10_2) H) Q3
theorem h38 (S : Sys) (a0 : Value) (H : Heap) (R : Kv) : wpC S k38.body (Env.get [a0]) H (fn [(.t 2), (.t 3)] R) = s38 S a0 H R := by kernel_rfl
theorem w38 {S : Sys} (hR : S.R 38 = none) (hF : S.F 38 = some k38) (a0 : Value) {H : Heap} {R : Kv} (h : s38 S a0 H R) : Wf S 38 [a0] H R := Wf_sh hR hF ((h38 S a0 H
  R).mpr h)
def b88_1 : KCode := (.seq (.reg [(.op (some 17) none (.bin .lss (.t 16) (.t 15)))]) (.seq (.cond (.t 17) .skip (.exit 0)) (.seq (.block 1 (.seq (.reg [(.op (some 18)
  none (.mv (.t 16))), (.op (some 19) none (.iad 1 (.t 14) (.t 16))), (.op (some 20) none (.ld (.t 19))), (.op (some 5) none (.mv (.t 18))), (.op (some 6) none (.mv (.t
  20)))]) (.seq (.reg [(.op (some 21) none (.mv (.t 6))), (.op (some 22) none (.bin .gtr (.t 21) (.c (.int .i64 0))))]) (.cond (.t 22) (.reg [(.op (some 23) none (.mv
  (.t 4))), (.op (some 24) none (.mv (.t 4))), (.op (some 25) none (.nck (.t 24))), (.op (some 26) none (.ld (.t 25))), (.op (some 27) none (.mv (.t 6))), (.op (some 28)
  none (.mv (.t 5))), (.op (some 29) none (.mv (.t 5))), (.op (some 30) none (.build [(.int .i64 0), (.int .i64 0), (.int .i64 0), (.pointer none), (.pointer none)] [(0,
  (1, (.t 27))), (1, (1, (.t 28))), (2, (1, (.t 29)))])), (.op (some 31) none (.box 124 (.t 30))), (.op (some 32) none (.bsl 120 1 [(.pointer none)] [(0, (1, (.t
  31)))])), (.op (some 33) none (.app 120 1 8 (.t 26) (.t 32))), (.op (some 34) none (.nck (.t 23))), (.op none none (.st (.t 34) (.t 33)))]) .skip)))) (.reg [(.op (some
  35) none (.bin .add (.t 16) (.c (.int .i64 1)))), (.op (some 16) none (.mv (.t 35)))]))))
def s88_1 (S : Sys) (e : Fe) (H : Heap) (Q : Kx) : Prop := run S (.bin .lss (.c (e 16)) (.c (e 15))) [] H fun t17_42 H => jn (sq (fun e44 H => jn (sq (fun e46 H => run S
  (.bin .add (.c (e46 16)) (.c (.int .i64 1))) [] H fun t35_47 H => Q .normal (upd (upd e46 35 t35_47) 16 t35_47) H) Q) fun Q45 => run S (.iad 1 (.c (e44 14)) (.c (e44
  16))) [] H fun t19_48 H => run S (.ld (.c t19_48)) [] H fun t20_49 H => run S (.bin .gtr (.c t20_49) (.c (.int .i64 0))) [] H fun t22_50 H => jn (blk 1 Q45) fun Q51 =>
  cnd t22_50 (fun Q52 => run S (.nck (.c (e44 4))) [] H fun t25_54 H => run S (.ld (.c t25_54)) [] H fun t26_55 H => run S (.build [(.int .i64 0), (.int .i64 0), (.int
  .i64 0), (.pointer none), (.pointer none)] [(0, (1, (.c t20_49))), (1, (1, (.c (e44 16)))), (2, (1, (.c (e44 16))))]) [] H fun t30_56 H => run S (.box 124 (.c t30_56))
  [] H fun t31_57 H => run S (.bsl 120 1 [(.pointer none)] [(0, (1, (.c t31_57)))]) [] H fun t32_58 H => run S (.app 120 1 8 (.c t26_55) (.c t32_58)) [] H fun t33_59 H
  => run S (.nck (.c (e44 4))) [] H fun t34_60 H => run S (.st (.c t34_60) (.c t33_59)) [] H fun _ H => Q52 .normal (upd (upd (upd (upd (upd (upd (upd (upd (upd (upd
  (upd (upd (upd (upd (upd (upd (upd (upd (upd e44 18 (e44 16)) 19 t19_48) 20 t20_49) 5 (e44 16)) 6 t20_49) 21 t20_49) 22 t22_50) 23 (e44 4)) 24 (e44 4)) 25 t25_54) 26
  t26_55) 27 t20_49) 28 (e44 16)) 29 (e44 16)) 30 t30_56) 31 t31_57) 32 t32_58) 33 t33_59) 34 t34_60) H) (fun Q53 => Q53 .normal (upd (upd (upd (upd (upd (upd (upd e44
  18 (e44 16)) 19 t19_48) 20 t20_49) 5 (e44 16)) 6 t20_49) 21 t20_49) 22 t22_50) H) Q51) Q) fun Q43 => cnd t17_42 (fun Q61 => Q61 .normal (upd e 17 t17_42) H) (fun Q62
  => Q62 (.exit 0) (upd e 17 t17_42) H) Q43
theorem h88_1 (S : Sys) (e : Fe) (H : Heap) (Q : Kx) : wpC S b88_1 e H Q = s88_1 S e H Q := by kernel_rfl
theorem l88_1 (S : Sys) {Q : Kx} (I : Nat → Fe → Heap → Prop) (d : Nat) {e0 : Fe} {H : Heap} (h0 : I d e0 H) (hr : ∀ (d : Nat) (e : Fe) (H : Heap), I d e H → s88_1 S e H
  (sq (fun e' H' => ∃ d', d' < d ∧ I d' e' H') Q)) : WL S b88_1 e0 H Q := WL_inv I d h0 fun d e H hi => (h88_1 S e H _).mpr (hr d e H hi)
theorem u88_1 (S : Sys) {Q : Kx} {e : Fe} {H : Heap} (h : s88_1 S e H (sq (fun e' H' => WL S b88_1 e' H' Q) Q)) : WL S b88_1 e H Q := WL_once ((h88_1 S e H _).mpr h)
def b88_0 : KCode := (.seq (.seq (.reg [(.op (some 39) none (.mv (.t 4))), (.op (some 40) none (.nck (.t 39))), (.op (some 41) none (.ld (.t 40))), (.op (some 42) none
  (.call 119 [(.t 41)])), (.op (some 43) none (.bin .gtr (.t 42) (.c (.int .i64 1))))]) (.cond (.t 43) .skip (.exit 2))) (.seq (.block 3 (.seq (.reg [(.op (some 46) none
  (.mv (.t 4))), (.op (some 47) none (.call 120 [(.t 46)])), (.op (some 48) none (.mv (.t 4))), (.op (some 49) none (.call 120 [(.t 48)])), (.op (some 9) none (.mv (.t
  47))), (.op (some 10) none (.mv (.t 49)))]) (.seq (.reg [(.op (some 50) none (.mv (.t 9))), (.op (some 51) none (.nck (.t 50))), (.op (some 52) none (.fad 0 (.t 51))),
  (.op (some 53) none (.ld (.t 52))), (.op (some 54) none (.mv (.t 10))), (.op (some 55) none (.nck (.t 54))), (.op (some 56) none (.fad 0 (.t 55))), (.op (some 57) none
  (.ld (.t 56))), (.op (some 58) none (.bin .add (.t 53) (.t 57))), (.op (some 59) none (.mv (.t 8))), (.op (some 60) none (.mv (.t 9))), (.op (some 61) none (.mv (.t
  10))), (.op (some 62) none (.build [(.int .i64 0), (.int .i64 0), (.int .i64 0), (.pointer none), (.pointer none)] [(0, (1, (.t 58))), (1, (1, (.t 59))), (2, (1, (.c
  (.int .i64 (-1))))), (3, (1, (.t 60))), (4, (1, (.t 61)))])), (.op (some 63) none (.box 124 (.t 62))), (.op (some 11) none (.mv (.t 63)))]) (.seq (.reg [(.op (some 64)
  none (.mv (.t 7))), (.op (some 65) none (.mv (.t 11))), (.op (some 66) none (.nck (.t 65))), (.op (some 67) none (.fad 0 (.t 66))), (.op (some 68) none (.ld (.t 67))),
  (.op (some 69) none (.bin .add (.t 64) (.t 68))), (.op (some 7) none (.mv (.t 69)))]) (.reg [(.op (some 70) none (.mv (.t 4))), (.op (some 71) none (.mki 157 (.t
  70))), (.op (some 72) none (.mv (.t 11))), (.op (some 73) none (.mki 120 (.t 72))), (.op (some 74) none (.call 114 [(.t 71), (.t 73)]))]))))) (.reg [(.op (some 44)
  none (.mv (.t 8))), (.op (some 45) none (.bin .add (.t 44) (.c (.int .i64 1)))), (.op (some 8) none (.mv (.t 45)))])))
def s88_0 (S : Sys) (e : Fe) (H : Heap) (Q : Kx) : Prop := run S (.nck (.c (e 4))) [] H fun t40_13 H => run S (.ld (.c t40_13)) [] H fun t41_14 H => run S (.call 119
  [(.c t41_14)]) [] H fun t42_15 H => run S (.bin .gtr (.c t42_15) (.c (.int .i64 1))) [] H fun t43_16 H => jn (sq (fun e18 H => jn (sq (fun e20 H => run S (.bin .add
  (.c (e20 8)) (.c (.int .i64 1))) [] H fun t45_21 H => Q .normal (upd (upd (upd e20 44 (e20 8)) 45 t45_21) 8 t45_21) H) Q) fun Q19 => run S (.call 120 [(.c (e18 4))])
  [] H fun t47_22 H => run S (.call 120 [(.c (e18 4))]) [] H fun t49_23 H => run S (.nck (.c t47_22)) [] H fun t51_24 H => run S (.fad 0 (.c t51_24)) [] H fun t52_25 H
  => run S (.ld (.c t52_25)) [] H fun t53_26 H => run S (.nck (.c t49_23)) [] H fun t55_27 H => run S (.fad 0 (.c t55_27)) [] H fun t56_28 H => run S (.ld (.c t56_28))
  [] H fun t57_29 H => run S (.bin .add (.c t53_26) (.c t57_29)) [] H fun t58_30 H => run S (.build [(.int .i64 0), (.int .i64 0), (.int .i64 0), (.pointer none),
  (.pointer none)] [(0, (1, (.c t58_30))), (1, (1, (.c (e18 8)))), (2, (1, (.c (.int .i64 (-1))))), (3, (1, (.c t47_22))), (4, (1, (.c t49_23)))]) [] H fun t62_31 H =>
  run S (.box 124 (.c t62_31)) [] H fun t63_32 H => run S (.nck (.c t63_32)) [] H fun t66_33 H => run S (.fad 0 (.c t66_33)) [] H fun t67_34 H => run S (.ld (.c t67_34))
  [] H fun t68_35 H => run S (.bin .add (.c (e18 7)) (.c t68_35)) [] H fun t69_36 H => run S (.mki 157 (.c (e18 4))) [] H fun t71_37 H => run S (.mki 120 (.c t63_32)) []
  H fun t73_38 H => run S (.call 114 [(.c t71_37), (.c t73_38)]) [] H fun t74_39 H => Q19 .normal (upd (upd (upd (upd (upd (upd (upd (upd (upd (upd (upd (upd (upd (upd
  (upd (upd (upd (upd (upd (upd (upd (upd (upd (upd (upd (upd (upd (upd (upd (upd (upd (upd (upd e18 46 (e18 4)) 47 t47_22) 48 (e18 4)) 49 t49_23) 9 t47_22) 10 t49_23)
  50 t47_22) 51 t51_24) 52 t52_25) 53 t53_26) 54 t49_23) 55 t55_27) 56 t56_28) 57 t57_29) 58 t58_30) 59 (e18 8)) 60 t47_22) 61 t49_23) 62 t62_31) 63 t63_32) 11 t63_32)
  64 (e18 7)) 65 t63_32) 66 t66_33) 67 t67_34) 68 t68_35) 69 t69_36) 7 t69_36) 70 (e18 4)) 71 t71_37) 72 t63_32) 73 t73_38) 74 t74_39) H) Q) fun Q17 => cnd t43_16 (fun
  Q40 => Q40 .normal (upd (upd (upd (upd (upd e 39 (e 4)) 40 t40_13) 41 t41_14) 42 t42_15) 43 t43_16) H) (fun Q41 => Q41 (.exit 2) (upd (upd (upd (upd (upd e 39 (e 4))
  40 t40_13) 41 t41_14) 42 t42_15) 43 t43_16) H) Q17
theorem h88_0 (S : Sys) (e : Fe) (H : Heap) (Q : Kx) : wpC S b88_0 e H Q = s88_0 S e H Q := by kernel_rfl
theorem l88_0 (S : Sys) {Q : Kx} (I : Nat → Fe → Heap → Prop) (d : Nat) {e0 : Fe} {H : Heap} (h0 : I d e0 H) (hr : ∀ (d : Nat) (e : Fe) (H : Heap), I d e H → s88_0 S e H
  (sq (fun e' H' => ∃ d', d' < d ∧ I d' e' H') Q)) : WL S b88_0 e0 H Q := WL_inv I d h0 fun d e H hi => (h88_0 S e H _).mpr (hr d e H hi)
theorem u88_0 (S : Sys) {Q : Kx} {e : Fe} {H : Heap} (h : s88_0 S e H (sq (fun e' H' => WL S b88_0 e' H' Q) Q)) : WL S b88_0 e H Q := WL_once ((h88_0 S e H _).mpr h)
def s88 (S : Sys) (a0 : Value) (H : Heap) (R : Kv) : Prop := run S (.bsl 120 0 [] []) [] H fun t12_1 H => run S (.box 159 (.c t12_1)) [] H fun t13_2 H => run S (.lenL
  (.c a0)) [] H fun t15_3 H => jn (sq (fun e5 H => run S (.mki 157 (.c (e5 4))) [] H fun t37_6 H => run S (.call 111 [(.c t37_6)]) [] H fun t38_7 H => jn (sq (fun e9 H
  => run S (.call 120 [(.c (e9 4))]) [] H fun t76_10 H => R (tup [t76_10, (e9 7)]) H) (fn [(.t 2), (.t 3)] R)) fun Q8 => jn (blk 2 Q8) fun Q11 => WL S b88_0 (upd (upd
  (upd (upd (upd e5 36 (e5 4)) 37 t37_6) 38 t38_7) 7 (.int .i64 0)) 8 (.int .i64 256)) H Q11) (fn [(.t 2), (.t 3)] R)) fun Q4 => jn (blk 0 Q4) fun Q12 => WL S b88_1 (upd
  (upd (upd (upd (upd (upd (upd (upd (Env.get [a0]) 2 (.pointer none)) 3 (.int .i64 0)) 12 t12_1) 13 t13_2) 4 t13_2) 14 a0) 15 t15_3) 16 (.int .i64 0)) H Q12
theorem h88 (S : Sys) (a0 : Value) (H : Heap) (R : Kv) : wpC S k88.body (Env.get [a0]) H (fn [(.t 2), (.t 3)] R) = s88 S a0 H R := by kernel_rfl
theorem w88 {S : Sys} (hR : S.R 88 = none) (hF : S.F 88 = some k88) (a0 : Value) {H : Heap} {R : Kv} (h : s88 S a0 H R) : Wf S 88 [a0] H R := Wf_sh hR hF ((h88 S a0 H
  R).mpr h)
def s89 (S : Sys) (a0 a1 a2 : Value) (H : Heap) (R : Kv) : Prop := run S (.nck (.c a0)) [] H fun t7_1 H => run S (.fad 2 (.c t7_1)) [] H fun t8_2 H => run S (.ld (.c
  t8_2)) [] H fun t9_3 H => run S (.bin .geq (.c t9_3) (.c (.int .i64 0))) [] H fun t10_4 H => jn (sq (fun e6 H => run S (.nck (.c (e6 0))) [] H fun t19_7 H => run S
  (.fad 3 (.c t19_7)) [] H fun t20_8 H => run S (.ld (.c t20_8)) [] H fun t21_9 H => run S (.bin .add (.c (e6 1)) (.c (.int .i64 1))) [] H fun t23_10 H => run S (.call
  89 [(.c t21_9), (.c t23_10), (.c (e6 2))]) [] H fun t25_11 H => run S (.nck (.c (e6 0))) [] H fun t27_12 H => run S (.fad 4 (.c t27_12)) [] H fun t28_13 H => run S
  (.ld (.c t28_13)) [] H fun t29_14 H => run S (.bin .add (.c (e6 1)) (.c (.int .i64 1))) [] H fun t31_15 H => run S (.call 89 [(.c t29_14), (.c t31_15), (.c (e6 2))])
  [] H fun t33_16 H => R (tup []) H) (fn [] R)) fun Q5 => cnd t10_4 (fun Q17 => run S (.nck (.c a0)) [] H fun t13_19 H => run S (.fad 2 (.c t13_19)) [] H fun t14_20 H =>
  run S (.ld (.c t14_20)) [] H fun t15_21 H => run S (.callv (.c a2) [(.c t15_21), (.c a1)]) [] H fun t17_22 H => Q17 .ret (upd (upd (upd (upd (upd (upd (upd (upd (upd
  (upd (upd (upd (Env.get [a0, a1, a2]) 6 a0) 7 t7_1) 8 t8_2) 9 t9_3) 10 t10_4) 11 a2) 12 a0) 13 t13_19) 14 t14_20) 15 t15_21) 16 a1) 17 t17_22) H) (fun Q18 => Q18
  .normal (upd (upd (upd (upd (upd (Env.get [a0, a1, a2]) 6 a0) 7 t7_1) 8 t8_2) 9 t9_3) 10 t10_4) H) Q5
theorem h89 (S : Sys) (a0 a1 a2 : Value) (H : Heap) (R : Kv) : wpC S k89.body (Env.get [a0, a1, a2]) H (fn [] R) = s89 S a0 a1 a2 H R := by kernel_rfl
theorem w89 {S : Sys} (hR : S.R 89 = none) (hF : S.F 89 = some k89) (a0 a1 a2 : Value) {H : Heap} {R : Kv} (h : s89 S a0 a1 a2 H R) : Wf S 89 [a0, a1, a2] H R := Wf_sh
  hR hF ((h89 S a0 a1 a2 H R).mpr h)
def s90 (S : Sys) (a0 a1 a2 a3 : Value) (H : Heap) (R : Kv) : Prop := run S (.ld (.c a2)) [] H fun t6_1 H => run S (.iad 1 (.c t6_1) (.c a0)) [] H fun t9_2 H => run S
  (.st (.c t9_2) (.c a1)) [] H fun _ H => run S (.ld (.c a3)) [] H fun t10_3 H => run S (.mx (.c t10_3) [(.c a1)]) [] H fun t12_4 H => run S (.st (.c a3) (.c t12_4)) []
  H fun _ H => R (tup []) H
theorem h90 (S : Sys) (a0 a1 a2 a3 : Value) (H : Heap) (R : Kv) : wpC S k90.body (Env.get [a0, a1, a2, a3]) H (fn [] R) = s90 S a0 a1 a2 a3 H R := by kernel_rfl
theorem w90 {S : Sys} (hR : S.R 90 = none) (hF : S.F 90 = some k90) (a0 a1 a2 a3 : Value) {H : Heap} {R : Kv} (h : s90 S a0 a1 a2 a3 H R) : Wf S 90 [a0, a1, a2, a3] H R
  := Wf_sh hR hF ((h90 S a0 a1 a2 a3 H R).mpr h)
def b111_0 : KCode := (.seq (.seq (.reg [(.op (some 9) none (.mv (.t 3))), (.op (some 10) none (.bin .geq (.t 9) (.c (.int .i64 0))))]) (.cond (.t 10) .skip (.exit 0)))
  (.seq (.block 1 (.reg [(.op (some 13) none (.mv (.t 0))), (.op (some 14) none (.mv (.t 3))), (.op (some 15) none (.mv (.t 2))), (.op (some 16) none (.call 131 [(.t
  13), (.t 14), (.t 15)]))])) (.reg [(.op (some 11) none (.mv (.t 3))), (.op (some 12) none (.bin .sub (.t 11) (.c (.int .i64 1)))), (.op (some 3) none (.mv (.t 12)))])))
def s111_0 (S : Sys) (e : Fe) (H : Heap) (Q : Kx) : Prop := run S (.bin .geq (.c (e 3)) (.c (.int .i64 0))) [] H fun t10_5 H => jn (sq (fun e7 H => jn (sq (fun e9 H =>
  run S (.bin .sub (.c (e9 3)) (.c (.int .i64 1))) [] H fun t12_10 H => Q .normal (upd (upd (upd e9 11 (e9 3)) 12 t12_10) 3 t12_10) H) Q) fun Q8 => run S (.call 131 [(.c
  (e7 0)), (.c (e7 3)), (.c (e7 2))]) [] H fun t16_11 H => Q8 .normal (upd (upd (upd (upd e7 13 (e7 0)) 14 (e7 3)) 15 (e7 2)) 16 t16_11) H) Q) fun Q6 => cnd t10_5 (fun
  Q12 => Q12 .normal (upd (upd e 9 (e 3)) 10 t10_5) H) (fun Q13 => Q13 (.exit 0) (upd (upd e 9 (e 3)) 10 t10_5) H) Q6
theorem h111_0 (S : Sys) (e : Fe) (H : Heap) (Q : Kx) : wpC S b111_0 e H Q = s111_0 S e H Q := by kernel_rfl
theorem l111_0 (S : Sys) {Q : Kx} (I : Nat → Fe → Heap → Prop) (d : Nat) {e0 : Fe} {H : Heap} (h0 : I d e0 H) (hr : ∀ (d : Nat) (e : Fe) (H : Heap), I d e H → s111_0 S e
  H (sq (fun e' H' => ∃ d', d' < d ∧ I d' e' H') Q)) : WL S b111_0 e0 H Q := WL_inv I d h0 fun d e H hi => (h111_0 S e H _).mpr (hr d e H hi)
theorem u111_0 (S : Sys) {Q : Kx} {e : Fe} {H : Heap} (h : s111_0 S e H (sq (fun e' H' => WL S b111_0 e' H' Q) Q)) : WL S b111_0 e H Q := WL_once ((h111_0 S e H _).mpr h)
def s111 (S : Sys) (a0 : Value) (H : Heap) (R : Kv) : Prop := run S (.inv (.c a0) "Len" []) [] H fun t5_1 H => run S (.bin .quo (.c t5_1) (.c (.int .i64 2))) [] H fun
  t7_2 H => run S (.bin .sub (.c t7_2) (.c (.int .i64 1))) [] H fun t8_3 H => jn (blk 0 (fn [] R)) fun Q4 => WL S b111_0 (upd (upd (upd (upd (upd (upd (upd (Env.get
  [a0]) 4 a0) 5 t5_1) 2 t5_1) 6 t5_1) 7 t7_2) 8 t8_3) 3 t8_3) H Q4
theorem h111 (S : Sys) (a0 : Value) (H : Heap) (R : Kv) : wpC S k111.body (Env.get [a0]) H (fn [] R) = s111 S a0 H R := by kernel_rfl
theorem w111 {S : Sys} (hR : S.R 111 = none) (hF : S.F 111 = some k111) (a0 : Value) {H : Heap} {R : Kv} (h : s111 S a0 H R) : Wf S 111 [a0] H R := Wf_sh hR hF ((h111 S
  a0 H R).mpr h)
def s113 (S : Sys) (a0 : Value) (H : Heap) (R : Kv) : Prop := run S (.inv (.c a0) "Len" []) [] H fun t5_1 H => run S (.bin .sub (.c t5_1) (.c (.int .i64 1))) [] H fun
  t6_2 H => run S (.inv (.c a0) "Swap" [(.c (.int .i64 0)), (.c t6_2)]) [] H fun t9_3 H => run S (.call 131 [(.c a0), (.c (.int .i64 0)), (.c t6_2)]) [] H fun t12_4 H =>
  run S (.inv (.c a0) "Pop" []) [] H fun t14_5 H => R t14_5 H
theorem h113 (S : Sys) (a0 : Value) (H : Heap) (R : Kv) : wpC S k113.body (Env.get [a0]) H (fn [(.t 2)] R) = s113 S a0 H R := by kernel_rfl
theorem w113 {S : Sys} (hR : S.R 113 = none) (hF : S.F 113 = some k113) (a0 : Value) {H : Heap} {R : Kv} (h : s113 S a0 H R) : Wf S 113 [a0] H R := Wf_sh hR hF ((h113 S
  a0 H R).mpr h)
def s114 (S : Sys) (a0 a1 : Value) (H : Heap) (R : Kv) : Prop := run S (.inv (.c a0) "Push" [(.c a1)]) [] H fun t6_1 H => run S (.inv (.c a0) "Len" []) [] H fun t9_2 H
  => run S (.bin .sub (.c t9_2) (.c (.int .i64 1))) [] H fun t10_3 H => run S (.call 132 [(.c a0), (.c t10_3)]) [] H fun t11_4 H => R (tup []) H
theorem h114 (S : Sys) (a0 a1 : Value) (H : Heap) (R : Kv) : wpC S k114.body (Env.get [a0, a1]) H (fn [] R) = s114 S a0 a1 H R := by kernel_rfl
theorem w114 {S : Sys} (hR : S.R 114 = none) (hF : S.F 114 = some k114) (a0 a1 : Value) {H : Heap} {R : Kv} (h : s114 S a0 a1 H R) : Wf S 114 [a0, a1] H R := Wf_sh hR hF
  ((h114 S a0 a1 H R).mpr h)
def s119 (S : Sys) (a0 : Value) (H : Heap) (R : Kv) : Prop := run S (.lenL (.c a0)) [] H fun t4_1 H => R t4_1 H
theorem h119 (S : Sys) (a0 : Value) (H : Heap) (R : Kv) : wpC S k119.body (Env.get [a0]) H (fn [(.t 2)] R) = s119 S a0 H R := by kernel_rfl
theorem w119 {S : Sys} (hR : S.R 119 = none) (hF : S.F 119 = some k119) (a0 : Value) {H : Heap} {R : Kv} (h : s119 S a0 H R) : Wf S 119 [a0] H R := Wf_sh hR hF ((h119 S
  a0 H R).mpr h)
def s120 (S : Sys) (a0 : Value) (H : Heap) (R : Kv) : Prop := run S (.mki 157 (.c a0)) [] H fun t7_1 H => run S (.call 113 [(.c t7_1)]) [] H fun t8_2 H => run S (.tas
  120 (.pointer none) true (.c t8_2)) [] H fun t9_3 H => run S (.xt (.c t9_3) 0) [] H fun t10_4 H => run S (.xt (.c t9_3) 1) [] H fun t11_5 H => R t10_4 H
theorem h120 (S : Sys) (a0 : Value) (H : Heap) (R : Kv) : wpC S k120.body (Env.get [a0]) H (fn [(.t 2)] R) = s120 S a0 H R := by kernel_rfl
theorem w120 {S : Sys} (hR : S.R 120 = none) (hF : S.F 120 = some k120) (a0 : Value) {H : Heap} {R : Kv} (h : s120 S a0 H R) : Wf S 120 [a0] H R := Wf_sh hR hF ((h120 S
  a0 H R).mpr h)
def s124 (S : Sys) (a0 a1 : Value) (H : Heap) (R : Kv) : Prop := run S (.call 137 [(.c a0)]) [] H fun t8_1 H => run S (.call 137 [(.c a1)]) [] H fun t10_2 H => jn (sq
  (fun e4 H => jn (sq (fun e6 H => run S (.bin .lss (.c (e6 0)) (.c (e6 1))) [] H fun t16_7 H => jn (sq (fun e9 H => run S (.bin .gtr (.c (e9 0)) (.c (e9 1))) [] H fun
  t19_10 H => jn (sq (fun e12 H => R (.int .i64 0) H) (fn [(.t 4)] R)) fun Q11 => cnd t19_10 (fun Q13 => Q13 .ret (upd (upd (upd (upd e9 17 (e9 0)) 18 (e9 1)) 19 t19_10)
  4 (.int .i64 1)) H) (fun Q14 => Q14 .normal (upd (upd (upd e9 17 (e9 0)) 18 (e9 1)) 19 t19_10) H) Q11) (fn [(.t 4)] R)) fun Q8 => cnd t16_7 (fun Q15 => Q15 .ret (upd
  (upd (upd (upd e6 14 (e6 0)) 15 (e6 1)) 16 t16_7) 4 (.int .i64 (-1))) H) (fun Q16 => Q16 .normal (upd (upd (upd e6 14 (e6 0)) 15 (e6 1)) 16 t16_7) H) Q8) (fn [(.t 4)]
  R)) fun Q5 => cnd (e4 6) (fun Q17 => Q17 .ret (upd (upd e4 13 (e4 6)) 4 (.int .i64 1)) H) (fun Q18 => Q18 .normal (upd e4 13 (e4 6)) H) Q5) (fn [(.t 4)] R)) fun Q3 =>
  cnd t8_1 (fun Q19 => jn (sq (fun e22 H => Q19 .ret (upd e22 4 (.int .i64 (-1))) H) Q19) fun Q21 => cnd t10_2 (fun Q23 => Q23 .ret (upd (upd (upd (upd (upd (upd (upd
  (upd (upd (upd (Env.get [a0, a1]) 4 (.int .i64 0)) 7 a0) 8 t8_1) 5 t8_1) 9 a1) 10 t10_2) 6 t10_2) 11 t8_1) 12 t10_2) 4 (.int .i64 0)) H) (fun Q24 => Q24 .normal (upd
  (upd (upd (upd (upd (upd (upd (upd (upd (Env.get [a0, a1]) 4 (.int .i64 0)) 7 a0) 8 t8_1) 5 t8_1) 9 a1) 10 t10_2) 6 t10_2) 11 t8_1) 12 t10_2) H) Q21) (fun Q20 => Q20
  .normal (upd (upd (upd (upd (upd (upd (upd (upd (Env.get [a0, a1]) 4 (.int .i64 0)) 7 a0) 8 t8_1) 5 t8_1) 9 a1) 10 t10_2) 6 t10_2) 11 t8_1) H) Q3
theorem h124 (S : Sys) (a0 a1 : Value) (H : Heap) (R : Kv) : wpC S k124.body (Env.get [a0, a1]) H (fn [(.t 4)] R) = s124 S a0 a1 H R := by kernel_rfl
theorem w124 {S : Sys} (hR : S.R 124 = none) (hF : S.F 124 = some k124) (a0 a1 : Value) {H : Heap} {R : Kv} (h : s124 S a0 a1 H R) : Wf S 124 [a0, a1] H R := Wf_sh hR hF
  ((h124 S a0 a1 H R).mpr h)
def b131_0 : KCode := (.block 1 (.seq (.reg [(.op (some 12) none (.mv (.t 7))), (.op (some 13) none (.bin .mul (.c (.int .i64 2)) (.t 12))), (.op (some 14) none (.bin
  .add (.t 13) (.c (.int .i64 1)))), (.op (some 8) none (.mv (.t 14)))]) (.seq (.seq (.reg [(.op (some 15) none (.mv (.t 8))), (.op (some 16) none (.mv (.t 2))), (.op
  (some 17) none (.bin .geq (.t 15) (.t 16))), (.op (some 18) none (.mv (.t 17))), (.op (some 19) (some (18, false)) (.mv (.t 8))), (.op (some 20) (some (18, false))
  (.bin .lss (.t 19) (.c (.int .i64 0)))), (.op (some 21) none (.pick (.t 18) (.c (.bool true)) (.t 20)))]) (.cond (.t 21) (.exit 0) .skip)) (.seq (.reg [(.op (some 22)
  none (.mv (.t 8))), (.op (some 9) none (.mv (.t 22)))]) (.seq (.seq (.reg [(.op (some 23) none (.mv (.t 8))), (.op (some 24) none (.bin .add (.t 23) (.c (.int .i64
  1)))), (.op (some 10) none (.mv (.t 24)))]) (.seq (.reg [(.op (some 25) none (.mv (.t 10))), (.op (some 26) none (.mv (.t 2))), (.op (some 27) none (.bin .lss (.t 25)
  (.t 26))), (.op (some 28) none (.mv (.t 27))), (.op (some 29) (some (28, true)) (.mv (.t 0))), (.op (some 30) (some (28, true)) (.mv (.t 10))), (.op (some 31) (some
  (28, true)) (.mv (.t 8))), (.op (some 32) (some (28, true)) (.inv (.t 29) "Less" [(.t 30), (.t 31)])), (.op (some 33) none (.pick (.t 28) (.t 32) (.c (.bool
  false))))]) (.cond (.t 33) (.reg [(.op (some 34) none (.mv (.t 10))), (.op (some 9) none (.mv (.t 34)))]) .skip))) (.seq (.seq (.reg [(.op (some 35) none (.mv (.t
  0))), (.op (some 36) none (.mv (.t 9))), (.op (some 37) none (.mv (.t 7))), (.op (some 38) none (.inv (.t 35) "Less" [(.t 36), (.t 37)])), (.op (some 39) none (.un
  .not (.t 38)))]) (.cond (.t 39) (.exit 0) .skip)) (.seq (.reg [(.op (some 40) none (.mv (.t 0))), (.op (some 41) none (.mv (.t 7))), (.op (some 42) none (.mv (.t 9))),
  (.op (some 43) none (.inv (.t 40) "Swap" [(.t 41), (.t 42)]))]) (.reg [(.op (some 44) none (.mv (.t 9))), (.op (some 7) none (.mv (.t 44)))]))))))))
def s131_0 (S : Sys) (e : Fe) (H : Heap) (Q : Kx) : Prop := run S (.bin .mul (.c (.int .i64 2)) (.c (e 7))) [] H fun t13_5 H => run S (.bin .add (.c t13_5) (.c (.int
  .i64 1))) [] H fun t14_6 H => run S (.bin .geq (.c t14_6) (.c (e 2))) [] H fun t17_7 H => gd t17_7 false (run S (.mv (.c t14_6)) [] H) H fun t19_8 H => gd t17_7 false
  (run S (.bin .lss (.c t19_8) (.c (.int .i64 0))) [] H) H fun t20_9 H => run S (.pick (.c t17_7) (.c (.bool true)) (.c t20_9)) [] H fun t21_10 H => jn (blk 1 Q) fun Q11
  => jn (sq (fun e13 H => run S (.bin .add (.c (e13 8)) (.c (.int .i64 1))) [] H fun t24_14 H => run S (.bin .lss (.c t24_14) (.c (e13 2))) [] H fun t27_15 H => gd
  t27_15 true (run S (.mv (.c (e13 0))) [] H) H fun t29_16 H => gd t27_15 true (run S (.mv (.c t24_14)) [] H) H fun t30_17 H => gd t27_15 true (run S (.mv (.c (e13 8)))
  [] H) H fun t31_18 H => gd t27_15 true (run S (.inv (.c t29_16) "Less" [(.c t30_17), (.c t31_18)]) [] H) H fun t32_19 H => run S (.pick (.c t27_15) (.c t32_19) (.c
  (.bool false))) [] H fun t33_20 H => jn (sq (fun e22 H => run S (.inv (.c (e22 0)) "Less" [(.c (e22 9)), (.c (e22 7))]) [] H fun t38_23 H => run S (.un .not (.c
  t38_23)) [] H fun t39_24 H => jn (sq (fun e26 H => run S (.inv (.c (e26 0)) "Swap" [(.c (e26 7)), (.c (e26 9))]) [] H fun t43_27 H => Q11 .normal (upd (upd (upd (upd
  (upd (upd e26 40 (e26 0)) 41 (e26 7)) 42 (e26 9)) 43 t43_27) 44 (e26 9)) 7 (e26 9)) H) Q11) fun Q25 => cnd t39_24 (fun Q28 => Q28 (.exit 0) (upd (upd (upd (upd (upd
  e22 35 (e22 0)) 36 (e22 9)) 37 (e22 7)) 38 t38_23) 39 t39_24) H) (fun Q29 => Q29 .normal (upd (upd (upd (upd (upd e22 35 (e22 0)) 36 (e22 9)) 37 (e22 7)) 38 t38_23) 39
  t39_24) H) Q25) Q11) fun Q21 => cnd t33_20 (fun Q30 => Q30 .normal (upd (upd (upd (upd (upd (upd (upd (upd (upd (upd (upd (upd (upd (upd (upd (upd e13 22 (e13 8)) 9
  (e13 8)) 23 (e13 8)) 24 t24_14) 10 t24_14) 25 t24_14) 26 (e13 2)) 27 t27_15) 28 t27_15) 29 t29_16) 30 t30_17) 31 t31_18) 32 t32_19) 33 t33_20) 34 t24_14) 9 t24_14) H)
  (fun Q31 => Q31 .normal (upd (upd (upd (upd (upd (upd (upd (upd (upd (upd (upd (upd (upd (upd e13 22 (e13 8)) 9 (e13 8)) 23 (e13 8)) 24 t24_14) 10 t24_14) 25 t24_14)
  26 (e13 2)) 27 t27_15) 28 t27_15) 29 t29_16) 30 t30_17) 31 t31_18) 32 t32_19) 33 t33_20) H) Q21) Q11) fun Q12 => cnd t21_10 (fun Q32 => Q32 (.exit 0) (upd (upd (upd
  (upd (upd (upd (upd (upd (upd (upd (upd e 12 (e 7)) 13 t13_5) 14 t14_6) 8 t14_6) 15 t14_6) 16 (e 2)) 17 t17_7) 18 t17_7) 19 t19_8) 20 t20_9) 21 t21_10) H) (fun Q33 =>
  Q33 .normal (upd (upd (upd (upd (upd (upd (upd (upd (upd (upd (upd e 12 (e 7)) 13 t13_5) 14 t14_6) 8 t14_6) 15 t14_6) 16 (e 2)) 17 t17_7) 18 t17_7) 19 t19_8) 20 t20_9)
  21 t21_10) H) Q12
theorem h131_0 (S : Sys) (e : Fe) (H : Heap) (Q : Kx) : wpC S b131_0 e H Q = s131_0 S e H Q := by kernel_rfl
theorem l131_0 (S : Sys) {Q : Kx} (I : Nat → Fe → Heap → Prop) (d : Nat) {e0 : Fe} {H : Heap} (h0 : I d e0 H) (hr : ∀ (d : Nat) (e : Fe) (H : Heap), I d e H → s131_0 S e
  H (sq (fun e' H' => ∃ d', d' < d ∧ I d' e' H') Q)) : WL S b131_0 e0 H Q := WL_inv I d h0 fun d e H hi => (h131_0 S e H _).mpr (hr d e H hi)
theorem u131_0 (S : Sys) {Q : Kx} {e : Fe} {H : Heap} (h : s131_0 S e H (sq (fun e' H' => WL S b131_0 e' H' Q) Q)) : WL S b131_0 e H Q := WL_once ((h131_0 S e H _).mpr h)
def s131 (S : Sys) (a0 a1 a2 : Value) (H : Heap) (R : Kv) : Prop := jn (sq (fun e2 H => run S (.bin .gtr (.c (e2 7)) (.c (e2 1))) [] H fun t47_3 H => R t47_3 H) (fn [(.t
  6)] R)) fun Q1 => jn (blk 0 Q1) fun Q4 => WL S b131_0 (upd (upd (upd (Env.get [a0, a1, a2]) 6 (.bool false)) 11 a1) 7 a1) H Q4
theorem h131 (S : Sys) (a0 a1 a2 : Value) (H : Heap) (R : Kv) : wpC S k131.body (Env.get [a0, a1, a2]) H (fn [(.t 6)] R) = s131 S a0 a1 a2 H R := by kernel_rfl
theorem w131 {S : Sys} (hR : S.R 131 = none) (hF : S.F 131 = some k131) (a0 a1 a2 : Value) {H : Heap} {R : Kv} (h : s131 S a0 a1 a2 H R) : Wf S 131 [a0, a1, a2] H R :=
  Wf_sh hR hF ((h131 S a0 a1 a2 H R).mpr h)
def b132_0 : KCode := (.block 1 (.seq (.reg [(.op (some 5) none (.mv (.t 1))), (.op (some 6) none (.bin .sub (.t 5) (.c (.int .i64 1)))), (.op (some 7) none (.bin .quo
  (.t 6) (.c (.int .i64 2)))), (.op (some 4) none (.mv (.t 7)))]) (.seq (.seq (.reg [(.op (some 8) none (.mv (.t 4))), (.op (some 9) none (.mv (.t 1))), (.op (some 10)
  none (.bin .eql (.t 8) (.t 9))), (.op (some 11) none (.mv (.t 10))), (.op (some 12) (some (11, false)) (.mv (.t 0))), (.op (some 13) (some (11, false)) (.mv (.t 1))),
  (.op (some 14) (some (11, false)) (.mv (.t 4))), (.op (some 15) (some (11, false)) (.inv (.t 12) "Less" [(.t 13), (.t 14)])), (.op (some 16) (some (11, false)) (.un
  .not (.t 15))), (.op (some 17) none (.pick (.t 11) (.c (.bool true)) (.t 16)))]) (.cond (.t 17) (.exit 0) .skip)) (.seq (.reg [(.op (some 18) none (.mv (.t 0))), (.op
  (some 19) none (.mv (.t 4))), (.op (some 20) none (.mv (.t 1))), (.op (some 21) none (.inv (.t 18) "Swap" [(.t 19), (.t 20)]))]) (.reg [(.op (some 22) none (.mv (.t
  4))), (.op (some 1) none (.mv (.t 22)))])))))
def s132_0 (S : Sys) (e : Fe) (H : Heap) (Q : Kx) : Prop := run S (.bin .sub (.c (e 1)) (.c (.int .i64 1))) [] H fun t6_2 H => run S (.bin .quo (.c t6_2) (.c (.int .i64
  2))) [] H fun t7_3 H => run S (.bin .eql (.c t7_3) (.c (e 1))) [] H fun t10_4 H => gd t10_4 false (run S (.mv (.c (e 0))) [] H) H fun t12_5 H => gd t10_4 false (run S
  (.mv (.c (e 1))) [] H) H fun t13_6 H => gd t10_4 false (run S (.mv (.c t7_3)) [] H) H fun t14_7 H => gd t10_4 false (run S (.inv (.c t12_5) "Less" [(.c t13_6), (.c
  t14_7)]) [] H) H fun t15_8 H => gd t10_4 false (run S (.un .not (.c t15_8)) [] H) H fun t16_9 H => run S (.pick (.c t10_4) (.c (.bool true)) (.c t16_9)) [] H fun
  t17_10 H => jn (blk 1 Q) fun Q11 => jn (sq (fun e13 H => run S (.inv (.c (e13 0)) "Swap" [(.c (e13 4)), (.c (e13 1))]) [] H fun t21_14 H => Q11 .normal (upd (upd (upd
  (upd (upd (upd e13 18 (e13 0)) 19 (e13 4)) 20 (e13 1)) 21 t21_14) 22 (e13 4)) 1 (e13 4)) H) Q11) fun Q12 => cnd t17_10 (fun Q15 => Q15 (.exit 0) (upd (upd (upd (upd
  (upd (upd (upd (upd (upd (upd (upd (upd (upd (upd e 5 (e 1)) 6 t6_2) 7 t7_3) 4 t7_3) 8 t7_3) 9 (e 1)) 10 t10_4) 11 t10_4) 12 t12_5) 13 t13_6) 14 t14_7) 15 t15_8) 16
  t16_9) 17 t17_10) H) (fun Q16 => Q16 .normal (upd (upd (upd (upd (upd (upd (upd (upd (upd (upd (upd (upd (upd (upd e 5 (e 1)) 6 t6_2) 7 t7_3) 4 t7_3) 8 t7_3) 9 (e 1))
  10 t10_4) 11 t10_4) 12 t12_5) 13 t13_6) 14 t14_7) 15 t15_8) 16 t16_9) 17 t17_10) H) Q12
theorem h132_0 (S : Sys) (e : Fe) (H : Heap) (Q : Kx) : wpC S b132_0 e H Q = s132_0 S e H Q := by kernel_rfl
theorem l132_0 (S : Sys) {Q : Kx} (I : Nat → Fe → Heap → Prop) (d : Nat) {e0 : Fe} {H : Heap} (h0 : I d e0 H) (hr : ∀ (d : Nat) (e : Fe) (H : Heap), I d e H → s132_0 S e
  H (sq (fun e' H' => ∃ d', d' < d ∧ I d' e' H') Q)) : WL S b132_0 e0 H Q := WL_inv I d h0 fun d e H hi => (h132_0 S e H _).mpr (hr d e H hi)
theorem u132_0 (S : Sys) {Q : Kx} {e : Fe} {H : Heap} (h : s132_0 S e H (sq (fun e' H' => WL S b132_0 e' H' Q) Q)) : WL S b132_0 e H Q := WL_once ((h132_0 S e H _).mpr h)
def s132 (S : Sys) (a0 a1 : Value) (H : Heap) (R : Kv) : Prop := jn (blk 0 (fn [] R)) fun Q1 => WL S b132_0 (Env.get [a0, a1]) H Q1
theorem h132 (S : Sys) (a0 a1 : Value) (H : Heap) (R : Kv) : wpC S k132.body (Env.get [a0, a1]) H (fn [] R) = s132 S a0 a1 H R := by kernel_rfl
theorem w132 {S : Sys} (hR : S.R 132 = none) (hF : S.F 132 = some k132) (a0 a1 : Value) {H : Heap} {R : Kv} (h : s132 S a0 a1 H R) : Wf S 132 [a0, a1] H R := Wf_sh hR hF
  ((h132 S a0 a1 H R).mpr h)
def s137 (S : Sys) (a0 : Value) (H : Heap) (R : Kv) : Prop := run S (.bin .neq (.c a0) (.c a0)) [] H fun t5_1 H => R t5_1 H
theorem h137 (S : Sys) (a0 : Value) (H : Heap) (R : Kv) : wpC S k137.body (Env.get [a0]) H (fn [(.t 2)] R) = s137 S a0 H R := by kernel_rfl
theorem w137 {S : Sys} (hR : S.R 137 = none) (hF : S.F 137 = some k137) (a0 : Value) {H : Heap} {R : Kv} (h : s137 S a0 H R) : Wf S 137 [a0] H R := Wf_sh hR hF ((h137 S
  a0 H R).mpr h)
def b167_0 : KCode := (.seq (.reg [(.op (some 9) none (.bin .lss (.t 8) (.t 7)))]) (.seq (.cond (.t 9) .skip (.exit 0)) (.seq (.block 1 (.seq (.reg [(.op (some 10) none
  (.iad 1 (.t 6) (.t 8))), (.op (some 11) none (.ld (.t 10))), (.op (some 5) none (.mv (.t 11)))]) (.seq (.reg [(.op (some 12) none (.mv (.t 5))), (.op (some 13) none
  (.mv (.t 3))), (.op (some 14) none (.bin .neq (.t 12) (.t 13)))]) (.cond (.t 14) (.seq (.reg [(.op (some 15) none (.mv (.t 5))), (.op (some 2) none (.mv (.t 15)))])
  .ret) .skip)))) (.reg [(.op (some 16) none (.bin .add (.t 8) (.c (.int .i64 1)))), (.op (some 8) none (.mv (.t 16)))]))))
def s167_0 (S : Sys) (e : Fe) (H : Heap) (Q : Kx) : Prop := run S (.bin .lss (.c (e 8)) (.c (e 7))) [] H fun t9_5 H => jn (sq (fun e7 H => jn (sq (fun e9 H => run S
  (.bin .add (.c (e9 8)) (.c (.int .i64 1))) [] H fun t16_10 H => Q .normal (upd (upd e9 16 t16_10) 8 t16_10) H) Q) fun Q8 => run S (.iad 1 (.c (e7 6)) (.c (e7 8))) [] H
  fun t10_11 H => run S (.ld (.c t10_11)) [] H fun t11_12 H => run S (.bin .neq (.c t11_12) (.c (e7 3))) [] H fun t14_13 H => jn (blk 1 Q8) fun Q14 => cnd t14_13 (fun
  Q15 => Q15 .ret (upd (upd (upd (upd (upd (upd (upd (upd e7 10 t10_11) 11 t11_12) 5 t11_12) 12 t11_12) 13 (e7 3)) 14 t14_13) 15 t11_12) 2 t11_12) H) (fun Q16 => Q16
  .normal (upd (upd (upd (upd (upd (upd e7 10 t10_11) 11 t11_12) 5 t11_12) 12 t11_12) 13 (e7 3)) 14 t14_13) H) Q14) Q) fun Q6 => cnd t9_5 (fun Q17 => Q17 .normal (upd e
  9 t9_5) H) (fun Q18 => Q18 (.exit 0) (upd e 9 t9_5) H) Q6
theorem h167_0 (S : Sys) (e : Fe) (H : Heap) (Q : Kx) : wpC S b167_0 e H Q = s167_0 S e H Q := by kernel_rfl
theorem l167_0 (S : Sys) {Q : Kx} (I : Nat → Fe → Heap → Prop) (d : Nat) {e0 : Fe} {H : Heap} (h0 : I d e0 H) (hr : ∀ (d : Nat) (e : Fe) (H : Heap), I d e H → s167_0 S e
  H (sq (fun e' H' => ∃ d', d' < d ∧ I d' e' H') Q)) : WL S b167_0 e0 H Q := WL_inv I d h0 fun d e H hi => (h167_0 S e H _).mpr (hr d e H hi)
theorem u167_0 (S : Sys) {Q : Kx} {e : Fe} {H : Heap} (h : s167_0 S e H (sq (fun e' H' => WL S b167_0 e' H' Q) Q)) : WL S b167_0 e H Q := WL_once ((h167_0 S e H _).mpr h)
def s167 (S : Sys) (a0 : Value) (H : Heap) (R : Kv) : Prop := run S (.lenL (.c a0)) [] H fun t7_1 H => jn (sq (fun e3 H => R (e3 3) H) (fn [(.t 2)] R)) fun Q2 => jn (blk
  0 Q2) fun Q4 => WL S b167_0 (upd (upd (upd (upd (upd (Env.get [a0]) 2 (.int .i64 0)) 3 (.int .i64 0)) 6 a0) 7 t7_1) 8 (.int .i64 0)) H Q4
theorem h167 (S : Sys) (a0 : Value) (H : Heap) (R : Kv) : wpC S k167.body (Env.get [a0]) H (fn [(.t 2)] R) = s167 S a0 H R := by kernel_rfl
theorem w167 {S : Sys} (hR : S.R 167 = none) (hF : S.F 167 = some k167) (a0 : Value) {H : Heap} {R : Kv} (h : s167 S a0 H R) : Wf S 167 [a0] H R := Wf_sh hR hF ((h167 S
  a0 H R).mpr h)
def s170 (S : Sys) (a0 a1 a2 : Value) (H : Heap) (R : Kv) : Prop := run S (.iad 1 (.c a0) (.c a1)) [] H fun t9_1 H => run S (.ld (.c t9_1)) [] H fun t10_2 H => run S
  (.nck (.c t10_2)) [] H fun t11_3 H => run S (.fad 0 (.c t11_3)) [] H fun t12_4 H => run S (.ld (.c t12_4)) [] H fun t13_5 H => run S (.iad 1 (.c a0) (.c a2)) [] H fun
  t16_6 H => run S (.ld (.c t16_6)) [] H fun t17_7 H => run S (.nck (.c t17_7)) [] H fun t18_8 H => run S (.fad 0 (.c t18_8)) [] H fun t19_9 H => run S (.ld (.c t19_9))
  [] H fun t20_10 H => run S (.iad 1 (.c a0) (.c a1)) [] H fun t24_11 H => run S (.ld (.c t24_11)) [] H fun t25_12 H => run S (.nck (.c t25_12)) [] H fun t26_13 H => run
  S (.fad 1 (.c t26_13)) [] H fun t27_14 H => run S (.ld (.c t27_14)) [] H fun t28_15 H => run S (.iad 1 (.c a0) (.c a2)) [] H fun t31_16 H => run S (.ld (.c t31_16)) []
  H fun t32_17 H => run S (.nck (.c t32_17)) [] H fun t33_18 H => run S (.fad 1 (.c t33_18)) [] H fun t34_19 H => run S (.ld (.c t34_19)) [] H fun t35_20 H => run S
  (.call 124 [(.c t13_5), (.c t20_10)]) [] H fun t21_21 H => ck (kop (.ld (.c t24_11)) [] H) t25_12 (ck (kop (.ld (.c t27_14)) [] H) t28_15 (ck (kop (.ld (.c t31_16)) []
  H) t32_17 (ck (kop (.ld (.c t34_19)) [] H) t35_20 (run S (.call 124 [(.c t28_15), (.c t35_20)]) [] H fun t36_22 H => run S (.bsl 3 2 [(.int .i64 0), (.int .i64 0)]
  [(0, (1, (.c t21_21))), (1, (1, (.c t36_22)))]) [] H fun t37_23 H => run S (.call 167 [(.c t37_23)]) [] H fun t38_24 H => run S (.bin .lss (.c t38_24) (.c (.int .i64
  0))) [] H fun t39_25 H => R t39_25 H))))
theorem h170 (S : Sys) (a0 a1 a2 : Value) (H : Heap) (R : Kv) : wpC S k170.body (Env.get [a0, a1, a2]) H (fn [(.t 6)] R) = s170 S a0 a1 a2 H R := by kernel_rfl
theorem w170 {S : Sys} (hR : S.R 170 = none) (hF : S.F 170 = some k170) (a0 a1 a2 : Value) {H : Heap} {R : Kv} (h : s170 S a0 a1 a2 H R) : Wf S 170 [a0, a1, a2] H R :=
  Wf_sh hR hF ((h170 S a0 a1 a2 H R).mpr h)
def s171 (S : Sys) (a0 : Value) (H : Heap) (R : Kv) : Prop := run S (.nck (.c a0)) [] H fun t6_1 H => run S (.ld (.c t6_1)) [] H fun t7_2 H => run S (.lenL (.c t7_2)) []
  H fun t8_3 H => run S (.bin .sub (.c t8_3) (.c (.int .i64 1))) [] H fun t9_4 H => run S (.nck (.c a0)) [] H fun t11_5 H => run S (.ld (.c t11_5)) [] H fun t12_6 H =>
  run S (.iad 1 (.c t12_6) (.c t9_4)) [] H fun t14_7 H => run S (.ld (.c t14_7)) [] H fun t15_8 H => run S (.nck (.c a0)) [] H fun t18_9 H => run S (.ld (.c t18_9)) [] H
  fun t19_10 H => run S (.slc 120 1 (.c t19_10) none (some (.c t9_4))) [] H fun t21_11 H => run S (.nck (.c a0)) [] H fun t22_12 H => run S (.st (.c t22_12) (.c t21_11))
  [] H fun _ H => run S (.mki 120 (.c t15_8)) [] H fun t24_13 H => R t24_13 H
theorem h171 (S : Sys) (a0 : Value) (H : Heap) (R : Kv) : wpC S k171.body (Env.get [a0]) H (fn [(.t 2)] R) = s171 S a0 H R := by kernel_rfl
theorem w171 {S : Sys} (hR : S.R 171 = none) (hF : S.F 171 = some k171) (a0 : Value) {H : Heap} {R : Kv} (h : s171 S a0 H R) : Wf S 171 [a0] H R := Wf_sh hR hF ((h171 S
  a0 H R).mpr h)
def s172 (S : Sys) (a0 a1 : Value) (H : Heap) (R : Kv) : Prop := run S (.tas 120 (.pointer none) true (.c a1)) [] H fun t8_1 H => run S (.xt (.c t8_1) 0) [] H fun t9_2 H
  => run S (.xt (.c t8_1) 1) [] H fun t10_3 H => cnd t10_3 (fun Q4 => run S (.nck (.c a0)) [] H fun t14_6 H => run S (.ld (.c t14_6)) [] H fun t15_7 H => run S (.bsl 120
  1 [(.pointer none)] [(0, (1, (.c t9_2)))]) [] H fun t17_8 H => run S (.app 120 1 8 (.c t15_7) (.c t17_8)) [] H fun t18_9 H => run S (.nck (.c a0)) [] H fun t19_10 H =>
  run S (.st (.c t19_10) (.c t18_9)) [] H fun _ H => Q4 .normal (upd (upd (upd (upd (upd (upd (upd (upd (upd (upd (upd (upd (upd (upd (upd (upd (Env.get [a0, a1]) 7 a1)
  8 t8_1) 6 t8_1) 9 t9_2) 10 t10_3) 4 t9_2) 5 t10_3) 11 t10_3) 12 a0) 13 a0) 14 t14_6) 15 t15_7) 16 t9_2) 17 t17_8) 18 t18_9) 19 t19_10) H) (fun Q5 => Q5 .normal (upd
  (upd (upd (upd (upd (upd (upd (upd (Env.get [a0, a1]) 7 a1) 8 t8_1) 6 t8_1) 9 t9_2) 10 t10_3) 4 t9_2) 5 t10_3) 11 t10_3) H) (fn [] R)
theorem h172 (S : Sys) (a0 a1 : Value) (H : Heap) (R : Kv) : wpC S k172.body (Env.get [a0, a1]) H (fn [] R) = s172 S a0 a1 H R := by kernel_rfl
theorem w172 {S : Sys} (hR : S.R 172 = none) (hF : S.F 172 = some k172) (a0 a1 : Value) {H : Heap} {R : Kv} (h : s172 S a0 a1 H R) : Wf S 172 [a0, a1] H R := Wf_sh hR hF
  ((h172 S a0 a1 H R).mpr h)
def s173 (S : Sys) (a0 a1 a2 : Value) (H : Heap) (R : Kv) : Prop := run S (.iad 1 (.c a0) (.c a2)) [] H fun t12_1 H => run S (.ld (.c t12_1)) [] H fun t13_2 H => run S
  (.iad 1 (.c a0) (.c a1)) [] H fun t16_3 H => run S (.ld (.c t16_3)) [] H fun t17_4 H => run S (.iad 1 (.c a0) (.c a1)) [] H fun t18_5 H => run S (.st (.c t18_5) (.c
  t13_2)) [] H fun _ H => run S (.iad 1 (.c a0) (.c a2)) [] H fun t19_6 H => run S (.st (.c t19_6) (.c t17_4)) [] H fun _ H => R (tup []) H
theorem h173 (S : Sys) (a0 a1 a2 : Value) (H : Heap) (R : Kv) : wpC S k173.body (Env.get [a0, a1, a2]) H (fn [] R) = s173 S a0 a1 a2 H R := by kernel_rfl
theorem w173 {S : Sys} (hR : S.R 173 = none) (hF : S.F 173 = some k173) (a0 a1 a2 : Value) {H : Heap} {R : Kv} (h : s173 S a0 a1 a2 H R) : Wf S 173 [a0, a1, a2] H R :=
  Wf_sh hR hF ((h173 S a0 a1 a2 H R).mpr h)
end Go.Proofs.Ytlboioplemlneaa.K
