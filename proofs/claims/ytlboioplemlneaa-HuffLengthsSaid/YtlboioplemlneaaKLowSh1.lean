/- The functions as nested words with named values, each held against its code by the kernel. Printed by a program of this work (sh.py). -/
import Derived.Test.YtlboioplemlneaaKLowCode
set_option maxRecDepth 100000
set_option linter.unusedVariables false
namespace Go.Proofs.Ytlboioplemlneaa.K
open Go Go.Proofs
def b10_0 : KCode := (.seq (.reg [(.op (some 50) none (.bin .lss (.t 49) (.t 48)))]) (.seq (.cond (.t 50) .skip (.exit 0)) (.seq (.block 1 (.seq (.reg [(.op (some 51)
  none (.mv (.t 49))), (.op (some 52) none (.iad 1 (.t 47) (.t 49))), (.op (some 53) none (.ld (.t 52))), (.op (some 6) none (.mv (.t 51))), (.op (some 7) none (.mv (.t
  53)))]) (.seq (.seq (.reg [(.op (some 54) none (.mv (.t 7))), (.op (some 55) none (.bin .gtr (.t 54) (.c (.int .i64 0)))), (.op (some 56) none (.mv (.t 0))), (.op
  (some 57) none (.mv (.t 6))), (.op (some 58) none (.iad 1 (.t 56) (.t 57))), (.op (some 59) none (.ld (.t 58))), (.op (some 60) none (.bin .gtr (.t 59) (.c (.int .i64
  0)))), (.op (some 61) none (.eqv (.s .bool) true (.t 55) (.t 60)))]) (.cond (.t 61) (.seq (.reg [(.op (some 2) none (.mv (.c (.bool false))))]) .ret) .skip)) (.reg
  [(.op (some 62) none (.mv (.t 5))), (.op (some 63) none (.mv (.t 7))), (.op (some 64) none (.mx (.t 62) [(.t 63)])), (.op (some 5) none (.mv (.t 64)))])))) (.reg [(.op
  (some 65) none (.bin .add (.t 49) (.c (.int .i64 1)))), (.op (some 49) none (.mv (.t 65)))]))))
def s10_0 (S : Sys) (e : Fe) (H : Heap) (Q : Kx) : Prop := run S (.bin .lss (.c (e 49)) (.c (e 48))) [] H fun t50_77 H => jn (sq (fun e79 H => jn (sq (fun e81 H => run S
  (.bin .add (.c (e81 49)) (.c (.int .i64 1))) [] H fun t65_82 H => Q .normal (upd (upd e81 65 t65_82) 49 t65_82) H) Q) fun Q80 => run S (.iad 1 (.c (e79 47)) (.c (e79
  49))) [] H fun t52_83 H => run S (.ld (.c t52_83)) [] H fun t53_84 H => run S (.bin .gtr (.c t53_84) (.c (.int .i64 0))) [] H fun t55_85 H => run S (.iad 1 (.c (e79
  0)) (.c (e79 49))) [] H fun t58_86 H => run S (.ld (.c t58_86)) [] H fun t59_87 H => run S (.bin .gtr (.c t59_87) (.c (.int .i64 0))) [] H fun t60_88 H => run S (.eqv
  (.s .bool) true (.c t55_85) (.c t60_88)) [] H fun t61_89 H => jn (blk 1 Q80) fun Q90 => jn (sq (fun e92 H => run S (.mx (.c (e92 5)) [(.c (e92 7))]) [] H fun t64_93 H
  => Q90 .normal (upd (upd (upd (upd e92 62 (e92 5)) 63 (e92 7)) 64 t64_93) 5 t64_93) H) Q90) fun Q91 => cnd t61_89 (fun Q94 => Q94 .ret (upd (upd (upd (upd (upd (upd
  (upd (upd (upd (upd (upd (upd (upd (upd e79 51 (e79 49)) 52 t52_83) 53 t53_84) 6 (e79 49)) 7 t53_84) 54 t53_84) 55 t55_85) 56 (e79 0)) 57 (e79 49)) 58 t58_86) 59
  t59_87) 60 t60_88) 61 t61_89) 2 (.bool false)) H) (fun Q95 => Q95 .normal (upd (upd (upd (upd (upd (upd (upd (upd (upd (upd (upd (upd (upd e79 51 (e79 49)) 52 t52_83)
  53 t53_84) 6 (e79 49)) 7 t53_84) 54 t53_84) 55 t55_85) 56 (e79 0)) 57 (e79 49)) 58 t58_86) 59 t59_87) 60 t60_88) 61 t61_89) H) Q91) Q) fun Q78 => cnd t50_77 (fun Q96
  => Q96 .normal (upd e 50 t50_77) H) (fun Q97 => Q97 (.exit 0) (upd e 50 t50_77) H) Q78
theorem h10_0 (S : Sys) (e : Fe) (H : Heap) (Q : Kx) : wpC S b10_0 e H Q = s10_0 S e H Q := by kernel_rfl
theorem l10_0 (S : Sys) {Q : Kx} (I : Nat → Fe → Heap → Prop) (d : Nat) {e0 : Fe} {H : Heap} (h0 : I d e0 H) (hr : ∀ (d : Nat) (e : Fe) (H : Heap), I d e H → s10_0 S e H
  (sq (fun e' H' => ∃ d', d' < d ∧ I d' e' H') Q)) : WL S b10_0 e0 H Q := WL_inv I d h0 fun d e H hi => (h10_0 S e H _).mpr (hr d e H hi)
theorem u10_0 (S : Sys) {Q : Kx} {e : Fe} {H : Heap} (h : s10_0 S e H (sq (fun e' H' => WL S b10_0 e' H' Q) Q)) : WL S b10_0 e H Q := WL_once ((h10_0 S e H _).mpr h)
def s10 (S : Sys) (a0 : Value) (H : Heap) (R : Kv) : Prop := run S (.call 37 []) [] H fun t13_1 H => run S (.un .not (.c t13_1)) [] H fun t14_2 H => jn (sq (fun e4 H =>
  run S (.lenL (.c (e4 0))) [] H fun t16_5 H => run S (.bin .gtr (.c t16_5) (.c (.int .i64 256))) [] H fun t17_6 H => jn (sq (fun e8 H => run S (.call 38 [(.c (e8 0))])
  [] H fun t20_9 H => run S (.xt (.c t20_9) 0) [] H fun t21_10 H => run S (.xt (.c t20_9) 1) [] H fun t22_11 H => run S (.call 39 [(.c (e8 0))]) [] H fun t25_12 H => run
  S (.eqv (.s .bool) true (.c t22_11) (.c t25_12)) [] H fun t26_13 H => jn (sq (fun e15 H => run S (.un .not (.c (e15 4))) [] H fun t28_16 H => jn (sq (fun e18 H => run
  S (.lenL (.c (e18 3))) [] H fun t38_19 H => run S (.lenL (.c (e18 0))) [] H fun t40_20 H => run S (.bin .neq (.c t38_19) (.c t40_20)) [] H fun t41_21 H => gd t41_21
  false (run S (.mv (.c (e18 3))) [] H) H fun t43_22 H => gd t41_21 false (run S (.call 22 [(.c t43_22)]) [] H) H fun t44_23 H => gd t41_21 false (run S (.un .not (.c
  t44_23)) [] H) H fun t45_24 H => run S (.pick (.c t41_21) (.c (.bool true)) (.c t45_24)) [] H fun t46_25 H => jn (sq (fun e27 H => run S (.lenL (.c (e27 3))) [] H fun
  t48_28 H => jn (sq (fun e30 H => run S (.call 41 [(.c (e30 0)), (.c (e30 3))]) [] H fun t69_31 H => run S (.xt (.c t69_31) 0) [] H fun t70_32 H => run S (.xt (.c
  t69_31) 1) [] H fun t71_33 H => run S (.call 42 [(.c (e30 0))]) [] H fun t73_34 H => run S (.call 43 [(.c (e30 0)), (.c (e30 3))]) [] H fun t77_35 H => run S (.xt (.c
  t77_35) 0) [] H fun t78_36 H => run S (.xt (.c t77_35) 1) [] H fun t79_37 H => gd t71_33 true (run S (.mv (.c t79_37)) [] H) H fun t82_38 H => run S (.pick (.c t71_33)
  (.c t82_38) (.c (.bool false))) [] H fun t83_39 H => gd t83_39 true (run S (.mv (.c t78_36)) [] H) H fun t85_40 H => gd t83_39 true (run S (.mv (.c t70_32)) [] H) H
  fun t86_41 H => gd t83_39 true (run S (.bin .eql (.c t85_40) (.c t86_41)) [] H) H fun t87_42 H => run S (.pick (.c t83_39) (.c t87_42) (.c (.bool false))) [] H fun
  t88_43 H => gd t88_43 true (run S (.mv (.c (e30 0))) [] H) H fun t90_44 H => gd t88_43 true (run S (.call 40 [(.c t90_44)]) [] H) H fun t91_45 H => gd t88_43 true (run
  S (.mv (.c t73_34)) [] H) H fun t92_46 H => gd t88_43 true (run S (.bin .eql (.c t91_45) (.c t92_46)) [] H) H fun t93_47 H => run S (.pick (.c t88_43) (.c t93_47) (.c
  (.bool false))) [] H fun t94_48 H => gd t94_48 true (run S (.mv (.c t70_32)) [] H) H fun t96_49 H => gd t94_48 true (run S (.mv (.c t73_34)) [] H) H fun t97_50 H => gd
  t94_48 true (run S (.bin .geq (.c t96_49) (.c t97_50)) [] H) H fun t98_51 H => run S (.pick (.c t94_48) (.c t98_51) (.c (.bool false))) [] H fun t99_52 H => gd t99_52
  true (run S (.mv (.c t70_32)) [] H) H fun t101_53 H => gd t99_52 true (run S (.mv (.c (e30 0))) [] H) H fun t102_54 H => gd t99_52 true (run S (.call 44 [(.c
  t102_54)]) [] H) H fun t103_55 H => gd t99_52 true (run S (.mv (.c t73_34)) [] H) H fun t104_56 H => gd t99_52 true (run S (.mx (.c t103_55) [(.c t104_56)]) [] H) H
  fun t105_57 H => gd t99_52 true (run S (.bin .leq (.c t101_53) (.c t105_57)) [] H) H fun t106_58 H => run S (.pick (.c t99_52) (.c t106_58) (.c (.bool false))) [] H
  fun t107_59 H => R t107_59 H) (fn [(.t 2)] R)) fun Q29 => jn (blk 0 Q29) fun Q60 => WL S b10_0 (upd (upd (upd (upd e27 5 (.int .i64 0)) 47 (e27 3)) 48 t48_28) 49 (.int
  .i64 0)) H Q60) (fn [(.t 2)] R)) fun Q26 => cnd t46_25 (fun Q61 => Q61 .ret (upd (upd (upd (upd (upd (upd (upd (upd (upd (upd (upd e18 37 (e18 3)) 38 t38_19) 39 (e18
  0)) 40 t40_20) 41 t41_21) 42 t41_21) 43 t43_22) 44 t44_23) 45 t45_24) 46 t46_25) 2 (.bool false)) H) (fun Q62 => Q62 .normal (upd (upd (upd (upd (upd (upd (upd (upd
  (upd (upd e18 37 (e18 3)) 38 t38_19) 39 (e18 0)) 40 t40_20) 41 t41_21) 42 t41_21) 43 t43_22) 44 t44_23) 45 t45_24) 46 t46_25) H) Q26) (fn [(.t 2)] R)) fun Q17 => cnd
  t28_16 (fun Q63 => run S (.lenL (.c (e15 3))) [] H fun t30_65 H => run S (.bin .eql (.c t30_65) (.c (.int .i64 0))) [] H fun t31_66 H => gd t31_66 true (run S (.mv (.c
  (e15 0))) [] H) H fun t33_67 H => gd t31_66 true (run S (.call 40 [(.c t33_67)]) [] H) H fun t34_68 H => gd t31_66 true (run S (.bin .eql (.c t34_68) (.c (.int .i64
  0))) [] H) H fun t35_69 H => run S (.pick (.c t31_66) (.c t35_69) (.c (.bool false))) [] H fun t36_70 H => Q63 .ret (upd (upd (upd (upd (upd (upd (upd (upd (upd (upd
  (upd e15 27 (e15 4)) 28 t28_16) 29 (e15 3)) 30 t30_65) 31 t31_66) 32 t31_66) 33 t33_67) 34 t34_68) 35 t35_69) 36 t36_70) 2 t36_70) H) (fun Q64 => Q64 .normal (upd (upd
  e15 27 (e15 4)) 28 t28_16) H) Q17) (fn [(.t 2)] R)) fun Q14 => cnd t26_13 (fun Q71 => Q71 .ret (upd (upd (upd (upd (upd (upd (upd (upd (upd (upd (upd (upd e8 19 (e8
  0)) 20 t20_9) 18 t20_9) 21 t21_10) 22 t22_11) 3 t21_10) 4 t22_11) 23 t22_11) 24 (e8 0)) 25 t25_12) 26 t26_13) 2 (.bool false)) H) (fun Q72 => Q72 .normal (upd (upd
  (upd (upd (upd (upd (upd (upd (upd (upd (upd e8 19 (e8 0)) 20 t20_9) 18 t20_9) 21 t21_10) 22 t22_11) 3 t21_10) 4 t22_11) 23 t22_11) 24 (e8 0)) 25 t25_12) 26 t26_13) H)
  Q14) (fn [(.t 2)] R)) fun Q7 => cnd t17_6 (fun Q73 => Q73 .ret (upd (upd (upd (upd e4 15 (e4 0)) 16 t16_5) 17 t17_6) 2 (.bool true)) H) (fun Q74 => Q74 .normal (upd
  (upd (upd e4 15 (e4 0)) 16 t16_5) 17 t17_6) H) Q7) (fn [(.t 2)] R)) fun Q3 => cnd t14_2 (fun Q75 => Q75 .ret (upd (upd (upd (upd (Env.get [a0]) 2 (.bool false)) 13
  t13_1) 14 t14_2) 2 (.bool false)) H) (fun Q76 => Q76 .normal (upd (upd (upd (Env.get [a0]) 2 (.bool false)) 13 t13_1) 14 t14_2) H) Q3
theorem h10 (S : Sys) (a0 : Value) (H : Heap) (R : Kv) : wpC S k10.body (Env.get [a0]) H (fn [(.t 2)] R) = s10 S a0 H R := by kernel_rfl
theorem w10 {S : Sys} (hR : S.R 10 = none) (hF : S.F 10 = some k10) (a0 : Value) {H : Heap} {R : Kv} (h : s10 S a0 H R) : Wf S 10 [a0] H R := Wf_sh hR hF ((h10 S a0 H
  R).mpr h)
def b22_0 : KCode := (.seq (.seq (.reg [(.op (some 9) none (.mv (.t 5))), (.op (some 10) none (.mv (.t 0))), (.op (some 11) none (.lenL (.t 10))), (.op (some 12) none
  (.bin .lss (.t 9) (.t 11)))]) (.cond (.t 12) .skip (.exit 0))) (.seq (.block 1 (.seq (.reg [(.op (some 15) none (.mv (.t 0))), (.op (some 16) none (.mv (.t 5))), (.op
  (some 17) none (.iad 1 (.t 15) (.t 16))), (.op (some 18) none (.ld (.t 17))), (.op (some 19) none (.bin .gtr (.t 18) (.c (.int .i64 0))))]) (.cond (.t 19) (.seq (.reg
  [(.op (some 20) none (.mv (.t 3))), (.op (some 21) none (.mv (.t 0))), (.op (some 22) none (.mv (.t 5))), (.op (some 23) none (.iad 1 (.t 21) (.t 22))), (.op (some 24)
  none (.ld (.t 23))), (.op (some 25) none (.bin .sub (.c (.int .i64 11)) (.t 24))), (.op (some 26) none (.call 60 [(.t 25)])), (.op (some 27) none (.bin .add (.t 20)
  (.t 26))), (.op (some 3) none (.mv (.t 27)))]) (.reg [(.op (some 28) none (.mv (.t 4))), (.op (some 29) none (.bin .add (.t 28) (.c (.int .i64 1)))), (.op (some 4)
  none (.mv (.t 29)))])) .skip))) (.reg [(.op (some 13) none (.mv (.t 5))), (.op (some 14) none (.bin .add (.t 13) (.c (.int .i64 1)))), (.op (some 5) none (.mv (.t
  14)))])))
def s22_0 (S : Sys) (e : Fe) (H : Heap) (Q : Kx) : Prop := run S (.lenL (.c (e 0))) [] H fun t11_18 H => run S (.bin .lss (.c (e 5)) (.c t11_18)) [] H fun t12_19 H => jn
  (sq (fun e21 H => jn (sq (fun e23 H => run S (.bin .add (.c (e23 5)) (.c (.int .i64 1))) [] H fun t14_24 H => Q .normal (upd (upd (upd e23 13 (e23 5)) 14 t14_24) 5
  t14_24) H) Q) fun Q22 => run S (.iad 1 (.c (e21 0)) (.c (e21 5))) [] H fun t17_25 H => run S (.ld (.c t17_25)) [] H fun t18_26 H => run S (.bin .gtr (.c t18_26) (.c
  (.int .i64 0))) [] H fun t19_27 H => jn (blk 1 Q22) fun Q28 => cnd t19_27 (fun Q29 => run S (.iad 1 (.c (e21 0)) (.c (e21 5))) [] H fun t23_31 H => run S (.ld (.c
  t23_31)) [] H fun t24_32 H => run S (.bin .sub (.c (.int .i64 11)) (.c t24_32)) [] H fun t25_33 H => run S (.call 60 [(.c t25_33)]) [] H fun t26_34 H => run S (.bin
  .add (.c (e21 3)) (.c t26_34)) [] H fun t27_35 H => run S (.bin .add (.c (e21 4)) (.c (.int .i64 1))) [] H fun t29_36 H => Q29 .normal (upd (upd (upd (upd (upd (upd
  (upd (upd (upd (upd (upd (upd (upd (upd (upd (upd (upd e21 15 (e21 0)) 16 (e21 5)) 17 t17_25) 18 t18_26) 19 t19_27) 20 (e21 3)) 21 (e21 0)) 22 (e21 5)) 23 t23_31) 24
  t24_32) 25 t25_33) 26 t26_34) 27 t27_35) 3 t27_35) 28 (e21 4)) 29 t29_36) 4 t29_36) H) (fun Q30 => Q30 .normal (upd (upd (upd (upd (upd e21 15 (e21 0)) 16 (e21 5)) 17
  t17_25) 18 t18_26) 19 t19_27) H) Q28) Q) fun Q20 => cnd t12_19 (fun Q37 => Q37 .normal (upd (upd (upd (upd e 9 (e 5)) 10 (e 0)) 11 t11_18) 12 t12_19) H) (fun Q38 =>
  Q38 (.exit 0) (upd (upd (upd (upd e 9 (e 5)) 10 (e 0)) 11 t11_18) 12 t12_19) H) Q20
theorem h22_0 (S : Sys) (e : Fe) (H : Heap) (Q : Kx) : wpC S b22_0 e H Q = s22_0 S e H Q := by kernel_rfl
theorem l22_0 (S : Sys) {Q : Kx} (I : Nat → Fe → Heap → Prop) (d : Nat) {e0 : Fe} {H : Heap} (h0 : I d e0 H) (hr : ∀ (d : Nat) (e : Fe) (H : Heap), I d e H → s22_0 S e H
  (sq (fun e' H' => ∃ d', d' < d ∧ I d' e' H') Q)) : WL S b22_0 e0 H Q := WL_inv I d h0 fun d e H hi => (h22_0 S e H _).mpr (hr d e H hi)
theorem u22_0 (S : Sys) {Q : Kx} {e : Fe} {H : Heap} (h : s22_0 S e H (sq (fun e' H' => WL S b22_0 e' H' Q) Q)) : WL S b22_0 e H Q := WL_once ((h22_0 S e H _).mpr h)
def s22 (S : Sys) (a0 : Value) (H : Heap) (R : Kv) : Prop := run S (.call 59 [(.c a0)]) [] H fun t7_1 H => run S (.un .not (.c t7_1)) [] H fun t8_2 H => jn (sq (fun e4 H
  => jn (sq (fun e6 H => run S (.bin .eql (.c (e6 3)) (.c (.int .i64 2048))) [] H fun t31_7 H => gd t31_7 false (run S (.mv (.c (e6 4))) [] H) H fun t33_8 H => gd t31_7
  false (run S (.bin .eql (.c t33_8) (.c (.int .i64 1))) [] H) H fun t34_9 H => gd t31_7 false (run S (.mv (.c t34_9)) [] H) H fun t35_10 H => gd t35_10 true (run S (.mv
  (.c (e6 3))) [] H) H fun t36_11 H => gd t35_10 true (run S (.bin .eql (.c t36_11) (.c (.int .i64 1024))) [] H) H fun t37_12 H => gd t31_7 false (run S (.pick (.c
  t35_10) (.c t37_12) (.c (.bool false))) [] H) H fun t38_13 H => run S (.pick (.c t31_7) (.c (.bool true)) (.c t38_13)) [] H fun t39_14 H => R t39_14 H) (fn [(.t 2)]
  R)) fun Q5 => jn (blk 0 Q5) fun Q15 => WL S b22_0 (upd (upd (upd e4 3 (.int .i64 0)) 4 (.int .i64 0)) 5 (.int .i64 0)) H Q15) (fn [(.t 2)] R)) fun Q3 => cnd t8_2 (fun
  Q16 => Q16 .ret (upd (upd (upd (upd (upd (Env.get [a0]) 2 (.bool false)) 6 a0) 7 t7_1) 8 t8_2) 2 (.bool false)) H) (fun Q17 => Q17 .normal (upd (upd (upd (upd (Env.get
  [a0]) 2 (.bool false)) 6 a0) 7 t7_1) 8 t8_2) H) Q3
theorem h22 (S : Sys) (a0 : Value) (H : Heap) (R : Kv) : wpC S k22.body (Env.get [a0]) H (fn [(.t 2)] R) = s22 S a0 H R := by kernel_rfl
theorem w22 {S : Sys} (hR : S.R 22 = none) (hF : S.F 22 = some k22) (a0 : Value) {H : Heap} {R : Kv} (h : s22 S a0 H R) : Wf S 22 [a0] H R := Wf_sh hR hF ((h22 S a0 H
  R).mpr h)
def s38 (S : Sys) (a0 : Value) (H : Heap) (R : Kv) : Prop := run S (.call 87 [(.c a0)]) [] H fun t9_1 H => run S (.un .not (.c t9_1)) [] H fun t10_2 H => jn (sq (fun e4
  H => run S (.call 88 [(.c (e4 0))]) [] H fun t13_5 H => run S (.xt (.c t13_5) 0) [] H fun t14_6 H => run S (.xt (.c t13_5) 1) [] H fun t15_7 H => run S (.lenL (.c (e4
  0))) [] H fun t17_8 H => run S (.mks 3 [(.int .i64 0)] 8 (.c t17_8) (.c t17_8)) [] H fun t18_9 H => run S (.alloc 38 [(.slice none 0 0)]) [] H fun t6_10 H => run S
  (.st (.c t6_10) (.c t18_9)) [] H fun _ H => run S (.nck (.c t14_6)) [] H fun t20_11 H => run S (.fad 2 (.c t20_11)) [] H fun t21_12 H => run S (.ld (.c t21_12)) [] H
  fun t22_13 H => run S (.bin .geq (.c t22_13) (.c (.int .i64 0))) [] H fun t23_14 H => jn (sq (fun e16 H => run S (.alloc 3 [(.int .i64 0)]) [] H fun t7_17 H => run S
  (.st (.c t7_17) (.c (.int .i64 0))) [] H fun _ H => run S (.mkf (.func 90) [] [(.c (e16 6)), (.c t7_17)]) [] H fun t32_18 H => run S (.call 89 [(.c (e16 4)), (.c (.int
  .i64 0)), (.c t32_18)]) [] H fun t33_19 H => run S (.ld (.c t7_17)) [] H fun t34_20 H => run S (.bin .gtr (.c t34_20) (.c (.int .i64 11))) [] H fun t35_21 H => jn (sq
  (fun e23 H => run S (.ld (.c (e23 6))) [] H fun t38_24 H => R (tup [t38_24, (.bool true)]) H) (fn [(.t 2), (.t 3)] R)) fun Q22 => cnd t35_21 (fun Q25 => run S (.call
  91 [(.c (e16 0))]) [] H fun t37_27 H => Q25 .ret (upd (upd (upd (upd (upd (upd (upd (upd (upd (upd e16 7 t7_17) 31 (e16 4)) 32 t32_18) 33 t33_19) 34 t34_20) 35 t35_21)
  36 (e16 0)) 37 t37_27) 2 t37_27) 3 (.bool true)) H) (fun Q26 => Q26 .normal (upd (upd (upd (upd (upd (upd e16 7 t7_17) 31 (e16 4)) 32 t32_18) 33 t33_19) 34 t34_20) 35
  t35_21) H) Q22) (fn [(.t 2), (.t 3)] R)) fun Q15 => cnd t23_14 (fun Q28 => run S (.ld (.c t6_10)) [] H fun t24_30 H => run S (.nck (.c t14_6)) [] H fun t26_31 H => run
  S (.fad 2 (.c t26_31)) [] H fun t27_32 H => run S (.ld (.c t27_32)) [] H fun t28_33 H => run S (.iad 1 (.c t24_30) (.c t28_33)) [] H fun t29_34 H => run S (.st (.c
  t29_34) (.c (.int .i64 1))) [] H fun _ H => run S (.ld (.c t6_10)) [] H fun t30_35 H => Q28 .ret (upd (upd (upd (upd (upd (upd (upd (upd (upd (upd (upd (upd (upd (upd
  (upd (upd (upd (upd (upd (upd (upd (upd (upd (upd (upd e4 12 (e4 0)) 13 t13_5) 11 t13_5) 14 t14_6) 15 t15_7) 4 t14_6) 5 t15_7) 16 (e4 0)) 17 t17_8) 18 t18_9) 6 t6_10)
  19 t14_6) 20 t20_11) 21 t21_12) 22 t22_13) 23 t23_14) 24 t24_30) 25 t14_6) 26 t26_31) 27 t27_32) 28 t28_33) 29 t29_34) 30 t30_35) 2 t30_35) 3 (.bool true)) H) (fun Q29
  => Q29 .normal (upd (upd (upd (upd (upd (upd (upd (upd (upd (upd (upd (upd (upd (upd (upd (upd e4 12 (e4 0)) 13 t13_5) 11 t13_5) 14 t14_6) 15 t15_7) 4 t14_6) 5 t15_7)
  16 (e4 0)) 17 t17_8) 18 t18_9) 6 t6_10) 19 t14_6) 20 t20_11) 21 t21_12) 22 t22_13) 23 t23_14) H) Q15) (fn [(.t 2), (.t 3)] R)) fun Q3 => cnd t10_2 (fun Q36 => Q36 .ret
  (upd (upd (upd (upd (upd (upd (upd (Env.get [a0]) 2 (.slice none 0 0)) 3 (.bool false)) 8 a0) 9 t9_1) 10 t10_2) 2 (.slice none 0 0)) 3 (.bool false)) H) (fun Q37 =>
  Q37 .normal (upd (upd (upd (upd (upd (Env.get [a0]) 2 (.slice none 0 0)) 3 (.bool false)) 8 a0) 9 t9_1) 10 t10_2) H) Q3
theorem h38 (S : Sys) (a0 : Value) (H : Heap) (R : Kv) : wpC S k38.body (Env.get [a0]) H (fn [(.t 2), (.t 3)] R) = s38 S a0 H R := by kernel_rfl
theorem w38 {S : Sys} (hR : S.R 38 = none) (hF : S.F 38 = some k38) (a0 : Value) {H : Heap} {R : Kv} (h : s38 S a0 H R) : Wf S 38 [a0] H R := Wf_sh hR hF ((h38 S a0 H
  R).mpr h)
def b39_0 : KCode := (.seq (.seq (.reg [(.op (some 5) none (.mv (.t 4))), (.op (some 6) none (.mv (.t 0))), (.op (some 7) none (.lenL (.t 6))), (.op (some 8) none (.bin
  .lss (.t 5) (.t 7)))]) (.cond (.t 8) .skip (.exit 0))) (.seq (.block 1 (.seq (.seq (.reg [(.op (some 11) none (.mv (.t 0))), (.op (some 12) none (.mv (.t 4))), (.op
  (some 13) none (.iad 1 (.t 11) (.t 12))), (.op (some 14) none (.ld (.t 13))), (.op (some 15) none (.bin .lss (.t 14) (.c (.int .i64 0)))), (.op (some 16) none (.mv (.t
  15))), (.op (some 17) (some (16, false)) (.mv (.t 0))), (.op (some 18) (some (16, false)) (.mv (.t 4))), (.op (some 19) (some (16, false)) (.iad 1 (.t 17) (.t 18))),
  (.op (some 20) (some (16, false)) (.ld (.t 19))), (.op (some 21) (some (16, false)) (.bin .gtr (.t 20) (.c (.int .i64 1048576)))), (.op (some 22) none (.pick (.t 16)
  (.c (.bool true)) (.t 21)))]) (.cond (.t 22) (.seq (.reg [(.op (some 2) none (.mv (.c (.bool false))))]) .ret) .skip)) (.reg [(.op (some 23) none (.mv (.t 3))), (.op
  (some 24) none (.mv (.t 23))), (.op (some 25) (some (24, false)) (.mv (.t 0))), (.op (some 26) (some (24, false)) (.mv (.t 4))), (.op (some 27) (some (24, false))
  (.iad 1 (.t 25) (.t 26))), (.op (some 28) (some (24, false)) (.ld (.t 27))), (.op (some 29) (some (24, false)) (.bin .gtr (.t 28) (.c (.int .i64 0)))), (.op (some 30)
  none (.pick (.t 24) (.c (.bool true)) (.t 29))), (.op (some 3) none (.mv (.t 30)))]))) (.reg [(.op (some 9) none (.mv (.t 4))), (.op (some 10) none (.bin .add (.t 9)
  (.c (.int .i64 1)))), (.op (some 4) none (.mv (.t 10)))])))
def s39_0 (S : Sys) (e : Fe) (H : Heap) (Q : Kx) : Prop := run S (.lenL (.c (e 0))) [] H fun t7_8 H => run S (.bin .lss (.c (e 4)) (.c t7_8)) [] H fun t8_9 H => jn (sq
  (fun e11 H => jn (sq (fun e13 H => run S (.bin .add (.c (e13 4)) (.c (.int .i64 1))) [] H fun t10_14 H => Q .normal (upd (upd (upd e13 9 (e13 4)) 10 t10_14) 4 t10_14)
  H) Q) fun Q12 => run S (.iad 1 (.c (e11 0)) (.c (e11 4))) [] H fun t13_15 H => run S (.ld (.c t13_15)) [] H fun t14_16 H => run S (.bin .lss (.c t14_16) (.c (.int .i64
  0))) [] H fun t15_17 H => gd t15_17 false (run S (.mv (.c (e11 0))) [] H) H fun t17_18 H => gd t15_17 false (run S (.mv (.c (e11 4))) [] H) H fun t18_19 H => gd t15_17
  false (run S (.iad 1 (.c t17_18) (.c t18_19)) [] H) H fun t19_20 H => gd t15_17 false (run S (.ld (.c t19_20)) [] H) H fun t20_21 H => gd t15_17 false (run S (.bin
  .gtr (.c t20_21) (.c (.int .i64 1048576))) [] H) H fun t21_22 H => run S (.pick (.c t15_17) (.c (.bool true)) (.c t21_22)) [] H fun t22_23 H => jn (blk 1 Q12) fun Q24
  => jn (sq (fun e26 H => gd (e26 3) false (run S (.mv (.c (e26 0))) [] H) H fun t25_27 H => gd (e26 3) false (run S (.mv (.c (e26 4))) [] H) H fun t26_28 H => gd (e26
  3) false (run S (.iad 1 (.c t25_27) (.c t26_28)) [] H) H fun t27_29 H => gd (e26 3) false (run S (.ld (.c t27_29)) [] H) H fun t28_30 H => gd (e26 3) false (run S
  (.bin .gtr (.c t28_30) (.c (.int .i64 0))) [] H) H fun t29_31 H => run S (.pick (.c (e26 3)) (.c (.bool true)) (.c t29_31)) [] H fun t30_32 H => Q24 .normal (upd (upd
  (upd (upd (upd (upd (upd (upd (upd e26 23 (e26 3)) 24 (e26 3)) 25 t25_27) 26 t26_28) 27 t27_29) 28 t28_30) 29 t29_31) 30 t30_32) 3 t30_32) H) Q24) fun Q25 => cnd
  t22_23 (fun Q33 => Q33 .ret (upd (upd (upd (upd (upd (upd (upd (upd (upd (upd (upd (upd (upd e11 11 (e11 0)) 12 (e11 4)) 13 t13_15) 14 t14_16) 15 t15_17) 16 t15_17) 17
  t17_18) 18 t18_19) 19 t19_20) 20 t20_21) 21 t21_22) 22 t22_23) 2 (.bool false)) H) (fun Q34 => Q34 .normal (upd (upd (upd (upd (upd (upd (upd (upd (upd (upd (upd (upd
  e11 11 (e11 0)) 12 (e11 4)) 13 t13_15) 14 t14_16) 15 t15_17) 16 t15_17) 17 t17_18) 18 t18_19) 19 t19_20) 20 t20_21) 21 t21_22) 22 t22_23) H) Q25) Q) fun Q10 => cnd
  t8_9 (fun Q35 => Q35 .normal (upd (upd (upd (upd e 5 (e 4)) 6 (e 0)) 7 t7_8) 8 t8_9) H) (fun Q36 => Q36 (.exit 0) (upd (upd (upd (upd e 5 (e 4)) 6 (e 0)) 7 t7_8) 8
  t8_9) H) Q10
theorem h39_0 (S : Sys) (e : Fe) (H : Heap) (Q : Kx) : wpC S b39_0 e H Q = s39_0 S e H Q := by kernel_rfl
theorem l39_0 (S : Sys) {Q : Kx} (I : Nat → Fe → Heap → Prop) (d : Nat) {e0 : Fe} {H : Heap} (h0 : I d e0 H) (hr : ∀ (d : Nat) (e : Fe) (H : Heap), I d e H → s39_0 S e H
  (sq (fun e' H' => ∃ d', d' < d ∧ I d' e' H') Q)) : WL S b39_0 e0 H Q := WL_inv I d h0 fun d e H hi => (h39_0 S e H _).mpr (hr d e H hi)
theorem u39_0 (S : Sys) {Q : Kx} {e : Fe} {H : Heap} (h : s39_0 S e H (sq (fun e' H' => WL S b39_0 e' H' Q) Q)) : WL S b39_0 e H Q := WL_once ((h39_0 S e H _).mpr h)
def s39 (S : Sys) (a0 : Value) (H : Heap) (R : Kv) : Prop := jn (sq (fun e2 H => gd (e2 3) true (run S (.mv (.c (e2 0))) [] H) H fun t33_3 H => gd (e2 3) true (run S
  (.lenL (.c t33_3)) [] H) H fun t34_4 H => gd (e2 3) true (run S (.bin .leq (.c t34_4) (.c (.int .i64 256))) [] H) H fun t35_5 H => run S (.pick (.c (e2 3)) (.c t35_5)
  (.c (.bool false))) [] H fun t36_6 H => R t36_6 H) (fn [(.t 2)] R)) fun Q1 => jn (blk 0 Q1) fun Q7 => WL S b39_0 (upd (upd (upd (Env.get [a0]) 2 (.bool false)) 3
  (.bool false)) 4 (.int .i64 0)) H Q7
theorem h39 (S : Sys) (a0 : Value) (H : Heap) (R : Kv) : wpC S k39.body (Env.get [a0]) H (fn [(.t 2)] R) = s39 S a0 H R := by kernel_rfl
theorem w39 {S : Sys} (hR : S.R 39 = none) (hF : S.F 39 = some k39) (a0 : Value) {H : Heap} {R : Kv} (h : s39 S a0 H R) : Wf S 39 [a0] H R := Wf_sh hR hF ((h39 S a0 H
  R).mpr h)
def s40 (S : Sys) (a0 : Value) (H : Heap) (R : Kv) : Prop := run S (.call 87 [(.c a0)]) [] H fun t6_1 H => run S (.un .not (.c t6_1)) [] H fun t7_2 H => jn (sq (fun e4 H
  => run S (.call 88 [(.c (e4 0))]) [] H fun t10_5 H => run S (.xt (.c t10_5) 0) [] H fun t11_6 H => run S (.xt (.c t10_5) 1) [] H fun t12_7 H => run S (.nck (.c t11_6))
  [] H fun t14_8 H => run S (.fad 2 (.c t14_8)) [] H fun t15_9 H => run S (.ld (.c t15_9)) [] H fun t16_10 H => run S (.bin .geq (.c t16_10) (.c (.int .i64 0))) [] H fun
  t17_11 H => jn (sq (fun e13 H => R (e13 4) H) (fn [(.t 2)] R)) fun Q12 => cnd t17_11 (fun Q14 => run S (.nck (.c t11_6)) [] H fun t19_16 H => run S (.fad 0 (.c
  t19_16)) [] H fun t20_17 H => run S (.ld (.c t20_17)) [] H fun t21_18 H => Q14 .ret (upd (upd (upd (upd (upd (upd (upd (upd (upd (upd (upd (upd (upd (upd (upd (upd
  (upd e4 9 (e4 0)) 10 t10_5) 8 t10_5) 11 t11_6) 12 t12_7) 3 t11_6) 4 t12_7) 13 t11_6) 14 t14_8) 15 t15_9) 16 t16_10) 17 t17_11) 18 t11_6) 19 t19_16) 20 t20_17) 21
  t21_18) 2 t21_18) H) (fun Q15 => Q15 .normal (upd (upd (upd (upd (upd (upd (upd (upd (upd (upd (upd (upd e4 9 (e4 0)) 10 t10_5) 8 t10_5) 11 t11_6) 12 t12_7) 3 t11_6) 4
  t12_7) 13 t11_6) 14 t14_8) 15 t15_9) 16 t16_10) 17 t17_11) H) Q12) (fn [(.t 2)] R)) fun Q3 => cnd t7_2 (fun Q19 => Q19 .ret (upd (upd (upd (upd (upd (Env.get [a0]) 2
  (.int .i64 0)) 5 a0) 6 t6_1) 7 t7_2) 2 (.int .i64 0)) H) (fun Q20 => Q20 .normal (upd (upd (upd (upd (Env.get [a0]) 2 (.int .i64 0)) 5 a0) 6 t6_1) 7 t7_2) H) Q3
theorem h40 (S : Sys) (a0 : Value) (H : Heap) (R : Kv) : wpC S k40.body (Env.get [a0]) H (fn [(.t 2)] R) = s40 S a0 H R := by kernel_rfl
theorem w40 {S : Sys} (hR : S.R 40 = none) (hF : S.F 40 = some k40) (a0 : Value) {H : Heap} {R : Kv} (h : s40 S a0 H R) : Wf S 40 [a0] H R := Wf_sh hR hF ((h40 S a0 H
  R).mpr h)
def b41_0 : KCode := (.seq (.seq (.reg [(.op (some 8) none (.mv (.t 7))), (.op (some 9) none (.mv (.t 0))), (.op (some 10) none (.lenL (.t 9))), (.op (some 11) none
  (.bin .lss (.t 8) (.t 10)))]) (.cond (.t 11) .skip (.exit 0))) (.seq (.block 1 (.seq (.seq (.reg [(.op (some 14) none (.mv (.t 0))), (.op (some 15) none (.mv (.t 7))),
  (.op (some 16) none (.iad 1 (.t 14) (.t 15))), (.op (some 17) none (.ld (.t 16))), (.op (some 18) none (.bin .gtr (.t 17) (.c (.int .i64 0)))), (.op (some 19) none
  (.mv (.t 18))), (.op (some 20) (some (19, true)) (.mv (.t 1))), (.op (some 21) (some (19, true)) (.mv (.t 7))), (.op (some 22) (some (19, true)) (.iad 1 (.t 20) (.t
  21))), (.op (some 23) (some (19, true)) (.ld (.t 22))), (.op (some 24) (some (19, true)) (.bin .eql (.t 23) (.c (.int .i64 0)))), (.op (some 25) none (.pick (.t 19)
  (.t 24) (.c (.bool false))))]) (.cond (.t 25) (.seq (.reg [(.op (some 4) none (.mv (.c (.int .i64 0)))), (.op (some 5) none (.mv (.c (.bool false))))]) .ret) .skip))
  (.reg [(.op (some 26) none (.mv (.t 6))), (.op (some 27) none (.mv (.t 0))), (.op (some 28) none (.mv (.t 7))), (.op (some 29) none (.iad 1 (.t 27) (.t 28))), (.op
  (some 30) none (.ld (.t 29))), (.op (some 31) none (.mv (.t 1))), (.op (some 32) none (.mv (.t 7))), (.op (some 33) none (.iad 1 (.t 31) (.t 32))), (.op (some 34) none
  (.ld (.t 33))), (.op (some 35) none (.bin .mul (.t 30) (.t 34))), (.op (some 36) none (.bin .add (.t 26) (.t 35))), (.op (some 6) none (.mv (.t 36)))]))) (.reg [(.op
  (some 12) none (.mv (.t 7))), (.op (some 13) none (.bin .add (.t 12) (.c (.int .i64 1)))), (.op (some 7) none (.mv (.t 13)))])))
def s41_0 (S : Sys) (e : Fe) (H : Heap) (Q : Kx) : Prop := run S (.lenL (.c (e 0))) [] H fun t10_4 H => run S (.bin .lss (.c (e 7)) (.c t10_4)) [] H fun t11_5 H => jn
  (sq (fun e7 H => jn (sq (fun e9 H => run S (.bin .add (.c (e9 7)) (.c (.int .i64 1))) [] H fun t13_10 H => Q .normal (upd (upd (upd e9 12 (e9 7)) 13 t13_10) 7 t13_10)
  H) Q) fun Q8 => run S (.iad 1 (.c (e7 0)) (.c (e7 7))) [] H fun t16_11 H => run S (.ld (.c t16_11)) [] H fun t17_12 H => run S (.bin .gtr (.c t17_12) (.c (.int .i64
  0))) [] H fun t18_13 H => gd t18_13 true (run S (.mv (.c (e7 1))) [] H) H fun t20_14 H => gd t18_13 true (run S (.mv (.c (e7 7))) [] H) H fun t21_15 H => gd t18_13
  true (run S (.iad 1 (.c t20_14) (.c t21_15)) [] H) H fun t22_16 H => gd t18_13 true (run S (.ld (.c t22_16)) [] H) H fun t23_17 H => gd t18_13 true (run S (.bin .eql
  (.c t23_17) (.c (.int .i64 0))) [] H) H fun t24_18 H => run S (.pick (.c t18_13) (.c t24_18) (.c (.bool false))) [] H fun t25_19 H => jn (blk 1 Q8) fun Q20 => jn (sq
  (fun e22 H => run S (.iad 1 (.c (e22 0)) (.c (e22 7))) [] H fun t29_23 H => run S (.ld (.c t29_23)) [] H fun t30_24 H => run S (.iad 1 (.c (e22 1)) (.c (e22 7))) [] H
  fun t33_25 H => run S (.ld (.c t33_25)) [] H fun t34_26 H => run S (.bin .mul (.c t30_24) (.c t34_26)) [] H fun t35_27 H => run S (.bin .add (.c (e22 6)) (.c t35_27))
  [] H fun t36_28 H => Q20 .normal (upd (upd (upd (upd (upd (upd (upd (upd (upd (upd (upd (upd e22 26 (e22 6)) 27 (e22 0)) 28 (e22 7)) 29 t29_23) 30 t30_24) 31 (e22 1))
  32 (e22 7)) 33 t33_25) 34 t34_26) 35 t35_27) 36 t36_28) 6 t36_28) H) Q20) fun Q21 => cnd t25_19 (fun Q29 => Q29 .ret (upd (upd (upd (upd (upd (upd (upd (upd (upd (upd
  (upd (upd (upd (upd e7 14 (e7 0)) 15 (e7 7)) 16 t16_11) 17 t17_12) 18 t18_13) 19 t18_13) 20 t20_14) 21 t21_15) 22 t22_16) 23 t23_17) 24 t24_18) 25 t25_19) 4 (.int .i64
  0)) 5 (.bool false)) H) (fun Q30 => Q30 .normal (upd (upd (upd (upd (upd (upd (upd (upd (upd (upd (upd (upd e7 14 (e7 0)) 15 (e7 7)) 16 t16_11) 17 t17_12) 18 t18_13)
  19 t18_13) 20 t20_14) 21 t21_15) 22 t22_16) 23 t23_17) 24 t24_18) 25 t25_19) H) Q21) Q) fun Q6 => cnd t11_5 (fun Q31 => Q31 .normal (upd (upd (upd (upd e 8 (e 7)) 9 (e
  0)) 10 t10_4) 11 t11_5) H) (fun Q32 => Q32 (.exit 0) (upd (upd (upd (upd e 8 (e 7)) 9 (e 0)) 10 t10_4) 11 t11_5) H) Q6
theorem h41_0 (S : Sys) (e : Fe) (H : Heap) (Q : Kx) : wpC S b41_0 e H Q = s41_0 S e H Q := by kernel_rfl
theorem l41_0 (S : Sys) {Q : Kx} (I : Nat → Fe → Heap → Prop) (d : Nat) {e0 : Fe} {H : Heap} (h0 : I d e0 H) (hr : ∀ (d : Nat) (e : Fe) (H : Heap), I d e H → s41_0 S e H
  (sq (fun e' H' => ∃ d', d' < d ∧ I d' e' H') Q)) : WL S b41_0 e0 H Q := WL_inv I d h0 fun d e H hi => (h41_0 S e H _).mpr (hr d e H hi)
theorem u41_0 (S : Sys) {Q : Kx} {e : Fe} {H : Heap} (h : s41_0 S e H (sq (fun e' H' => WL S b41_0 e' H' Q) Q)) : WL S b41_0 e H Q := WL_once ((h41_0 S e H _).mpr h)
def s41 (S : Sys) (a0 a1 : Value) (H : Heap) (R : Kv) : Prop := jn (sq (fun e2 H => R (tup [(e2 6), (.bool true)]) H) (fn [(.t 4), (.t 5)] R)) fun Q1 => jn (blk 0 Q1)
  fun Q3 => WL S b41_0 (upd (upd (upd (upd (Env.get [a0, a1]) 4 (.int .i64 0)) 5 (.bool false)) 6 (.int .i64 0)) 7 (.int .i64 0)) H Q3
theorem h41 (S : Sys) (a0 a1 : Value) (H : Heap) (R : Kv) : wpC S k41.body (Env.get [a0, a1]) H (fn [(.t 4), (.t 5)] R) = s41 S a0 a1 H R := by kernel_rfl
theorem w41 {S : Sys} (hR : S.R 41 = none) (hF : S.F 41 = some k41) (a0 a1 : Value) {H : Heap} {R : Kv} (h : s41 S a0 a1 H R) : Wf S 41 [a0, a1] H R := Wf_sh hR hF ((h41
  S a0 a1 H R).mpr h)
def b42_3 : KCode := (.seq (.seq (.reg [(.op (some 44) none (.mv (.t 7))), (.op (some 45) none (.mv (.t 6))), (.op (some 46) none (.bin .gtr (.t 44) (.t 45)))]) (.cond
  (.t 46) .skip (.exit 6))) (.seq (.block 7 (.seq (.reg [(.op (some 49) none (.mv (.t 3))), (.op (some 50) none (.mv (.t 7))), (.op (some 51) none (.iad 1 (.t 49) (.t
  50))), (.op (some 52) none (.ld (.t 51))), (.op (some 53) none (.mv (.t 3))), (.op (some 54) none (.mv (.t 7))), (.op (some 55) none (.bin .sub (.t 54) (.c (.int .i64
  1)))), (.op (some 56) none (.iad 1 (.t 53) (.t 55))), (.op (some 57) none (.ld (.t 56))), (.op (some 58) none (.bin .lss (.t 52) (.t 57)))]) (.cond (.t 58) (.seq (.reg
  [(.op (some 59) none (.mv (.t 3))), (.op (some 60) none (.mv (.t 7))), (.op (some 61) none (.iad 1 (.t 59) (.t 60))), (.op (some 62) none (.ld (.t 61))), (.op (some 8)
  none (.mv (.t 62)))]) (.seq (.reg [(.op (some 63) none (.mv (.t 3))), (.op (some 64) none (.mv (.t 7))), (.op (some 65) none (.mv (.t 3))), (.op (some 66) none (.mv
  (.t 7))), (.op (some 67) none (.bin .sub (.t 66) (.c (.int .i64 1)))), (.op (some 68) none (.iad 1 (.t 65) (.t 67))), (.op (some 69) none (.ld (.t 68))), (.op (some
  70) none (.iad 1 (.t 63) (.t 64))), (.op none none (.st (.t 70) (.t 69)))]) (.reg [(.op (some 71) none (.mv (.t 3))), (.op (some 72) none (.mv (.t 7))), (.op (some 73)
  none (.bin .sub (.t 72) (.c (.int .i64 1)))), (.op (some 74) none (.mv (.t 8))), (.op (some 75) none (.iad 1 (.t 71) (.t 73))), (.op none none (.st (.t 75) (.t
  74)))]))) .skip))) (.reg [(.op (some 47) none (.mv (.t 7))), (.op (some 48) none (.bin .sub (.t 47) (.c (.int .i64 1)))), (.op (some 7) none (.mv (.t 48)))])))
def s42_3 (S : Sys) (e : Fe) (H : Heap) (Q : Kx) : Prop := run S (.bin .gtr (.c (e 7)) (.c (e 6))) [] H fun t46_65 H => jn (sq (fun e67 H => jn (sq (fun e69 H => run S
  (.bin .sub (.c (e69 7)) (.c (.int .i64 1))) [] H fun t48_70 H => Q .normal (upd (upd (upd e69 47 (e69 7)) 48 t48_70) 7 t48_70) H) Q) fun Q68 => run S (.iad 1 (.c (e67
  3)) (.c (e67 7))) [] H fun t51_71 H => run S (.ld (.c t51_71)) [] H fun t52_72 H => run S (.bin .sub (.c (e67 7)) (.c (.int .i64 1))) [] H fun t55_73 H => run S (.iad
  1 (.c (e67 3)) (.c t55_73)) [] H fun t56_74 H => run S (.ld (.c t56_74)) [] H fun t57_75 H => run S (.bin .lss (.c t52_72) (.c t57_75)) [] H fun t58_76 H => jn (blk 7
  Q68) fun Q77 => cnd t58_76 (fun Q78 => run S (.iad 1 (.c (e67 3)) (.c (e67 7))) [] H fun t61_80 H => run S (.ld (.c t61_80)) [] H fun t62_81 H => run S (.bin .sub (.c
  (e67 7)) (.c (.int .i64 1))) [] H fun t67_82 H => run S (.iad 1 (.c (e67 3)) (.c t67_82)) [] H fun t68_83 H => run S (.ld (.c t68_83)) [] H fun t69_84 H => run S (.iad
  1 (.c (e67 3)) (.c (e67 7))) [] H fun t70_85 H => run S (.st (.c t70_85) (.c t69_84)) [] H fun _ H => run S (.bin .sub (.c (e67 7)) (.c (.int .i64 1))) [] H fun t73_86
  H => run S (.iad 1 (.c (e67 3)) (.c t73_86)) [] H fun t75_87 H => run S (.st (.c t75_87) (.c t62_81)) [] H fun _ H => Q78 .normal (upd (upd (upd (upd (upd (upd (upd
  (upd (upd (upd (upd (upd (upd (upd (upd (upd (upd (upd (upd (upd (upd (upd (upd (upd (upd (upd (upd (upd e67 49 (e67 3)) 50 (e67 7)) 51 t51_71) 52 t52_72) 53 (e67 3))
  54 (e67 7)) 55 t55_73) 56 t56_74) 57 t57_75) 58 t58_76) 59 (e67 3)) 60 (e67 7)) 61 t61_80) 62 t62_81) 8 t62_81) 63 (e67 3)) 64 (e67 7)) 65 (e67 3)) 66 (e67 7)) 67
  t67_82) 68 t68_83) 69 t69_84) 70 t70_85) 71 (e67 3)) 72 (e67 7)) 73 t73_86) 74 t62_81) 75 t75_87) H) (fun Q79 => Q79 .normal (upd (upd (upd (upd (upd (upd (upd (upd
  (upd (upd e67 49 (e67 3)) 50 (e67 7)) 51 t51_71) 52 t52_72) 53 (e67 3)) 54 (e67 7)) 55 t55_73) 56 t56_74) 57 t57_75) 58 t58_76) H) Q77) Q) fun Q66 => cnd t46_65 (fun
  Q88 => Q88 .normal (upd (upd (upd e 44 (e 7)) 45 (e 6)) 46 t46_65) H) (fun Q89 => Q89 (.exit 6) (upd (upd (upd e 44 (e 7)) 45 (e 6)) 46 t46_65) H) Q66
theorem h42_3 (S : Sys) (e : Fe) (H : Heap) (Q : Kx) : wpC S b42_3 e H Q = s42_3 S e H Q := by kernel_rfl
theorem l42_3 (S : Sys) {Q : Kx} (I : Nat → Fe → Heap → Prop) (d : Nat) {e0 : Fe} {H : Heap} (h0 : I d e0 H) (hr : ∀ (d : Nat) (e : Fe) (H : Heap), I d e H → s42_3 S e H
  (sq (fun e' H' => ∃ d', d' < d ∧ I d' e' H') Q)) : WL S b42_3 e0 H Q := WL_inv I d h0 fun d e H hi => (h42_3 S e H _).mpr (hr d e H hi)
theorem u42_3 (S : Sys) {Q : Kx} {e : Fe} {H : Heap} (h : s42_3 S e H (sq (fun e' H' => WL S b42_3 e' H' Q) Q)) : WL S b42_3 e H Q := WL_once ((h42_3 S e H _).mpr h)
def b42_2 : KCode := (.seq (.seq (.reg [(.op (some 37) none (.mv (.t 6))), (.op (some 38) none (.bin .lss (.t 37) (.c (.int .i64 2))))]) (.cond (.t 38) .skip (.exit 4)))
  (.seq (.block 5 (.seq (.reg [(.op (some 41) none (.mv (.t 3))), (.op (some 42) none (.lenL (.t 41))), (.op (some 43) none (.bin .sub (.t 42) (.c (.int .i64 1)))), (.op
  (some 7) none (.mv (.t 43)))]) (.block 6 (.loop (.seq (.seq (.reg [(.op (some 44) none (.mv (.t 7))), (.op (some 45) none (.mv (.t 6))), (.op (some 46) none (.bin .gtr
  (.t 44) (.t 45)))]) (.cond (.t 46) .skip (.exit 6))) (.seq (.block 7 (.seq (.reg [(.op (some 49) none (.mv (.t 3))), (.op (some 50) none (.mv (.t 7))), (.op (some 51)
  none (.iad 1 (.t 49) (.t 50))), (.op (some 52) none (.ld (.t 51))), (.op (some 53) none (.mv (.t 3))), (.op (some 54) none (.mv (.t 7))), (.op (some 55) none (.bin
  .sub (.t 54) (.c (.int .i64 1)))), (.op (some 56) none (.iad 1 (.t 53) (.t 55))), (.op (some 57) none (.ld (.t 56))), (.op (some 58) none (.bin .lss (.t 52) (.t
  57)))]) (.cond (.t 58) (.seq (.reg [(.op (some 59) none (.mv (.t 3))), (.op (some 60) none (.mv (.t 7))), (.op (some 61) none (.iad 1 (.t 59) (.t 60))), (.op (some 62)
  none (.ld (.t 61))), (.op (some 8) none (.mv (.t 62)))]) (.seq (.reg [(.op (some 63) none (.mv (.t 3))), (.op (some 64) none (.mv (.t 7))), (.op (some 65) none (.mv
  (.t 3))), (.op (some 66) none (.mv (.t 7))), (.op (some 67) none (.bin .sub (.t 66) (.c (.int .i64 1)))), (.op (some 68) none (.iad 1 (.t 65) (.t 67))), (.op (some 69)
  none (.ld (.t 68))), (.op (some 70) none (.iad 1 (.t 63) (.t 64))), (.op none none (.st (.t 70) (.t 69)))]) (.reg [(.op (some 71) none (.mv (.t 3))), (.op (some 72)
  none (.mv (.t 7))), (.op (some 73) none (.bin .sub (.t 72) (.c (.int .i64 1)))), (.op (some 74) none (.mv (.t 8))), (.op (some 75) none (.iad 1 (.t 71) (.t 73))), (.op
  none none (.st (.t 75) (.t 74)))]))) .skip))) (.reg [(.op (some 47) none (.mv (.t 7))), (.op (some 48) none (.bin .sub (.t 47) (.c (.int .i64 1)))), (.op (some 7) none
  (.mv (.t 48)))]))))))) (.reg [(.op (some 39) none (.mv (.t 6))), (.op (some 40) none (.bin .add (.t 39) (.c (.int .i64 1)))), (.op (some 6) none (.mv (.t 40)))])))
def s42_2 (S : Sys) (e : Fe) (H : Heap) (Q : Kx) : Prop := run S (.bin .lss (.c (e 6)) (.c (.int .i64 2))) [] H fun t38_53 H => jn (sq (fun e55 H => jn (sq (fun e57 H =>
  run S (.bin .add (.c (e57 6)) (.c (.int .i64 1))) [] H fun t40_58 H => Q .normal (upd (upd (upd e57 39 (e57 6)) 40 t40_58) 6 t40_58) H) Q) fun Q56 => run S (.lenL (.c
  (e55 3))) [] H fun t42_59 H => run S (.bin .sub (.c t42_59) (.c (.int .i64 1))) [] H fun t43_60 H => jn (blk 5 Q56) fun Q61 => jn (blk 6 Q61) fun Q62 => WL S b42_3
  (upd (upd (upd (upd e55 41 (e55 3)) 42 t42_59) 43 t43_60) 7 t43_60) H Q62) Q) fun Q54 => cnd t38_53 (fun Q63 => Q63 .normal (upd (upd e 37 (e 6)) 38 t38_53) H) (fun
  Q64 => Q64 (.exit 4) (upd (upd e 37 (e 6)) 38 t38_53) H) Q54
theorem h42_2 (S : Sys) (e : Fe) (H : Heap) (Q : Kx) : wpC S b42_2 e H Q = s42_2 S e H Q := by kernel_rfl
theorem l42_2 (S : Sys) {Q : Kx} (I : Nat → Fe → Heap → Prop) (d : Nat) {e0 : Fe} {H : Heap} (h0 : I d e0 H) (hr : ∀ (d : Nat) (e : Fe) (H : Heap), I d e H → s42_2 S e H
  (sq (fun e' H' => ∃ d', d' < d ∧ I d' e' H') Q)) : WL S b42_2 e0 H Q := WL_inv I d h0 fun d e H hi => (h42_2 S e H _).mpr (hr d e H hi)
theorem u42_2 (S : Sys) {Q : Kx} {e : Fe} {H : Heap} (h : s42_2 S e H (sq (fun e' H' => WL S b42_2 e' H' Q) Q)) : WL S b42_2 e H Q := WL_once ((h42_2 S e H _).mpr h)
def b42_1 : KCode := (.seq (.seq (.reg [(.op (some 10) none (.mv (.t 4))), (.op (some 11) none (.mv (.t 0))), (.op (some 12) none (.lenL (.t 11))), (.op (some 13) none
  (.bin .lss (.t 10) (.t 12)))]) (.cond (.t 13) .skip (.exit 0))) (.seq (.block 1 (.seq (.reg [(.op (some 16) none (.mv (.t 0))), (.op (some 17) none (.mv (.t 4))), (.op
  (some 18) none (.iad 1 (.t 16) (.t 17))), (.op (some 19) none (.ld (.t 18))), (.op (some 20) none (.bin .gtr (.t 19) (.c (.int .i64 0))))]) (.cond (.t 20) (.reg [(.op
  (some 21) none (.mv (.t 3))), (.op (some 22) none (.mv (.t 0))), (.op (some 23) none (.mv (.t 4))), (.op (some 24) none (.iad 1 (.t 22) (.t 23))), (.op (some 25) none
  (.ld (.t 24))), (.op (some 26) none (.bsl 3 1 [(.int .i64 0)] [(0, (1, (.t 25)))])), (.op (some 27) none (.app 3 1 8 (.t 21) (.t 26))), (.op (some 3) none (.mv (.t
  27)))]) .skip))) (.reg [(.op (some 14) none (.mv (.t 4))), (.op (some 15) none (.bin .add (.t 14) (.c (.int .i64 1)))), (.op (some 4) none (.mv (.t 15)))])))
def s42_1 (S : Sys) (e : Fe) (H : Heap) (Q : Kx) : Prop := run S (.lenL (.c (e 0))) [] H fun t12_34 H => run S (.bin .lss (.c (e 4)) (.c t12_34)) [] H fun t13_35 H => jn
  (sq (fun e37 H => jn (sq (fun e39 H => run S (.bin .add (.c (e39 4)) (.c (.int .i64 1))) [] H fun t15_40 H => Q .normal (upd (upd (upd e39 14 (e39 4)) 15 t15_40) 4
  t15_40) H) Q) fun Q38 => run S (.iad 1 (.c (e37 0)) (.c (e37 4))) [] H fun t18_41 H => run S (.ld (.c t18_41)) [] H fun t19_42 H => run S (.bin .gtr (.c t19_42) (.c
  (.int .i64 0))) [] H fun t20_43 H => jn (blk 1 Q38) fun Q44 => cnd t20_43 (fun Q45 => run S (.iad 1 (.c (e37 0)) (.c (e37 4))) [] H fun t24_47 H => run S (.ld (.c
  t24_47)) [] H fun t25_48 H => run S (.bsl 3 1 [(.int .i64 0)] [(0, (1, (.c t25_48)))]) [] H fun t26_49 H => run S (.app 3 1 8 (.c (e37 3)) (.c t26_49)) [] H fun t27_50
  H => Q45 .normal (upd (upd (upd (upd (upd (upd (upd (upd (upd (upd (upd (upd (upd e37 16 (e37 0)) 17 (e37 4)) 18 t18_41) 19 t19_42) 20 t20_43) 21 (e37 3)) 22 (e37 0))
  23 (e37 4)) 24 t24_47) 25 t25_48) 26 t26_49) 27 t27_50) 3 t27_50) H) (fun Q46 => Q46 .normal (upd (upd (upd (upd (upd e37 16 (e37 0)) 17 (e37 4)) 18 t18_41) 19 t19_42)
  20 t20_43) H) Q44) Q) fun Q36 => cnd t13_35 (fun Q51 => Q51 .normal (upd (upd (upd (upd e 10 (e 4)) 11 (e 0)) 12 t12_34) 13 t13_35) H) (fun Q52 => Q52 (.exit 0) (upd
  (upd (upd (upd e 10 (e 4)) 11 (e 0)) 12 t12_34) 13 t13_35) H) Q36
theorem h42_1 (S : Sys) (e : Fe) (H : Heap) (Q : Kx) : wpC S b42_1 e H Q = s42_1 S e H Q := by kernel_rfl
theorem l42_1 (S : Sys) {Q : Kx} (I : Nat → Fe → Heap → Prop) (d : Nat) {e0 : Fe} {H : Heap} (h0 : I d e0 H) (hr : ∀ (d : Nat) (e : Fe) (H : Heap), I d e H → s42_1 S e H
  (sq (fun e' H' => ∃ d', d' < d ∧ I d' e' H') Q)) : WL S b42_1 e0 H Q := WL_inv I d h0 fun d e H hi => (h42_1 S e H _).mpr (hr d e H hi)
theorem u42_1 (S : Sys) {Q : Kx} {e : Fe} {H : Heap} (h : s42_1 S e H (sq (fun e' H' => WL S b42_1 e' H' Q) Q)) : WL S b42_1 e H Q := WL_once ((h42_1 S e H _).mpr h)
def b42_0 : KCode := (.seq (.seq (.reg [(.op (some 34) none (.mv (.t 3))), (.op (some 35) none (.lenL (.t 34))), (.op (some 36) none (.bin .gtr (.t 35) (.c (.int .i64
  1))))]) (.cond (.t 36) .skip (.exit 2))) (.block 3 (.seq (.seq (.reg [(.op (some 6) none (.mv (.c (.int .i64 0))))]) (.block 4 (.loop (.seq (.seq (.reg [(.op (some 37)
  none (.mv (.t 6))), (.op (some 38) none (.bin .lss (.t 37) (.c (.int .i64 2))))]) (.cond (.t 38) .skip (.exit 4))) (.seq (.block 5 (.seq (.reg [(.op (some 41) none
  (.mv (.t 3))), (.op (some 42) none (.lenL (.t 41))), (.op (some 43) none (.bin .sub (.t 42) (.c (.int .i64 1)))), (.op (some 7) none (.mv (.t 43)))]) (.block 6 (.loop
  (.seq (.seq (.reg [(.op (some 44) none (.mv (.t 7))), (.op (some 45) none (.mv (.t 6))), (.op (some 46) none (.bin .gtr (.t 44) (.t 45)))]) (.cond (.t 46) .skip (.exit
  6))) (.seq (.block 7 (.seq (.reg [(.op (some 49) none (.mv (.t 3))), (.op (some 50) none (.mv (.t 7))), (.op (some 51) none (.iad 1 (.t 49) (.t 50))), (.op (some 52)
  none (.ld (.t 51))), (.op (some 53) none (.mv (.t 3))), (.op (some 54) none (.mv (.t 7))), (.op (some 55) none (.bin .sub (.t 54) (.c (.int .i64 1)))), (.op (some 56)
  none (.iad 1 (.t 53) (.t 55))), (.op (some 57) none (.ld (.t 56))), (.op (some 58) none (.bin .lss (.t 52) (.t 57)))]) (.cond (.t 58) (.seq (.reg [(.op (some 59) none
  (.mv (.t 3))), (.op (some 60) none (.mv (.t 7))), (.op (some 61) none (.iad 1 (.t 59) (.t 60))), (.op (some 62) none (.ld (.t 61))), (.op (some 8) none (.mv (.t
  62)))]) (.seq (.reg [(.op (some 63) none (.mv (.t 3))), (.op (some 64) none (.mv (.t 7))), (.op (some 65) none (.mv (.t 3))), (.op (some 66) none (.mv (.t 7))), (.op
  (some 67) none (.bin .sub (.t 66) (.c (.int .i64 1)))), (.op (some 68) none (.iad 1 (.t 65) (.t 67))), (.op (some 69) none (.ld (.t 68))), (.op (some 70) none (.iad 1
  (.t 63) (.t 64))), (.op none none (.st (.t 70) (.t 69)))]) (.reg [(.op (some 71) none (.mv (.t 3))), (.op (some 72) none (.mv (.t 7))), (.op (some 73) none (.bin .sub
  (.t 72) (.c (.int .i64 1)))), (.op (some 74) none (.mv (.t 8))), (.op (some 75) none (.iad 1 (.t 71) (.t 73))), (.op none none (.st (.t 75) (.t 74)))]))) .skip)))
  (.reg [(.op (some 47) none (.mv (.t 7))), (.op (some 48) none (.bin .sub (.t 47) (.c (.int .i64 1)))), (.op (some 7) none (.mv (.t 48)))]))))))) (.reg [(.op (some 39)
  none (.mv (.t 6))), (.op (some 40) none (.bin .add (.t 39) (.c (.int .i64 1)))), (.op (some 6) none (.mv (.t 40)))])))))) (.seq (.reg [(.op (some 76) none (.mv (.t
  3))), (.op (some 77) none (.iad 1 (.t 76) (.c (.int .i64 0)))), (.op (some 78) none (.ld (.t 77))), (.op (some 79) none (.mv (.t 3))), (.op (some 80) none (.iad 1 (.t
  79) (.c (.int .i64 1)))), (.op (some 81) none (.ld (.t 80))), (.op (some 82) none (.bin .add (.t 78) (.t 81))), (.op (some 9) none (.mv (.t 82)))]) (.seq (.reg [(.op
  (some 83) none (.mv (.t 5))), (.op (some 84) none (.mv (.t 9))), (.op (some 85) none (.bin .add (.t 83) (.t 84))), (.op (some 5) none (.mv (.t 85)))]) (.reg [(.op
  (some 86) none (.mv (.t 3))), (.op (some 87) none (.slc 3 1 (.t 86) (some (.c (.int .i64 2))) none)), (.op (some 88) none (.mv (.t 9))), (.op (some 89) none (.bsl 3 1
  [(.int .i64 0)] [(0, (1, (.t 88)))])), (.op (some 90) none (.app 3 1 8 (.t 87) (.t 89))), (.op (some 3) none (.mv (.t 90)))]))))))
def s42_0 (S : Sys) (e : Fe) (H : Heap) (Q : Kx) : Prop := run S (.lenL (.c (e 3))) [] H fun t35_15 H => run S (.bin .gtr (.c t35_15) (.c (.int .i64 1))) [] H fun t36_16
  H => jn (sq (fun e18 H => jn (blk 3 Q) fun Q19 => jn (sq (fun e21 H => run S (.iad 1 (.c (e21 3)) (.c (.int .i64 0))) [] H fun t77_22 H => run S (.ld (.c t77_22)) [] H
  fun t78_23 H => run S (.iad 1 (.c (e21 3)) (.c (.int .i64 1))) [] H fun t80_24 H => run S (.ld (.c t80_24)) [] H fun t81_25 H => run S (.bin .add (.c t78_23) (.c
  t81_25)) [] H fun t82_26 H => run S (.bin .add (.c (e21 5)) (.c t82_26)) [] H fun t85_27 H => run S (.slc 3 1 (.c (e21 3)) (some (.c (.int .i64 2))) none) [] H fun
  t87_28 H => run S (.bsl 3 1 [(.int .i64 0)] [(0, (1, (.c t82_26)))]) [] H fun t89_29 H => run S (.app 3 1 8 (.c t87_28) (.c t89_29)) [] H fun t90_30 H => Q19 .normal
  (upd (upd (upd (upd (upd (upd (upd (upd (upd (upd (upd (upd (upd (upd (upd (upd (upd (upd e21 76 (e21 3)) 77 t77_22) 78 t78_23) 79 (e21 3)) 80 t80_24) 81 t81_25) 82
  t82_26) 9 t82_26) 83 (e21 5)) 84 t82_26) 85 t85_27) 5 t85_27) 86 (e21 3)) 87 t87_28) 88 t82_26) 89 t89_29) 90 t90_30) 3 t90_30) H) Q19) fun Q20 => jn (blk 4 Q20) fun
  Q31 => WL S b42_2 (upd e18 6 (.int .i64 0)) H Q31) Q) fun Q17 => cnd t36_16 (fun Q32 => Q32 .normal (upd (upd (upd e 34 (e 3)) 35 t35_15) 36 t36_16) H) (fun Q33 => Q33
  (.exit 2) (upd (upd (upd e 34 (e 3)) 35 t35_15) 36 t36_16) H) Q17
theorem h42_0 (S : Sys) (e : Fe) (H : Heap) (Q : Kx) : wpC S b42_0 e H Q = s42_0 S e H Q := by kernel_rfl
theorem l42_0 (S : Sys) {Q : Kx} (I : Nat → Fe → Heap → Prop) (d : Nat) {e0 : Fe} {H : Heap} (h0 : I d e0 H) (hr : ∀ (d : Nat) (e : Fe) (H : Heap), I d e H → s42_0 S e H
  (sq (fun e' H' => ∃ d', d' < d ∧ I d' e' H') Q)) : WL S b42_0 e0 H Q := WL_inv I d h0 fun d e H hi => (h42_0 S e H _).mpr (hr d e H hi)
theorem u42_0 (S : Sys) {Q : Kx} {e : Fe} {H : Heap} (h : s42_0 S e H (sq (fun e' H' => WL S b42_0 e' H' Q) Q)) : WL S b42_0 e H Q := WL_once ((h42_0 S e H _).mpr h)
def s42 (S : Sys) (a0 : Value) (H : Heap) (R : Kv) : Prop := jn (sq (fun e2 H => run S (.lenL (.c (e2 3))) [] H fun t29_3 H => run S (.bin .eql (.c t29_3) (.c (.int .i64
  1))) [] H fun t30_4 H => jn (sq (fun e6 H => jn (sq (fun e8 H => R (e8 5) H) (fn [(.t 2)] R)) fun Q7 => jn (blk 2 Q7) fun Q9 => WL S b42_0 (upd e6 5 (.int .i64 0)) H
  Q9) (fn [(.t 2)] R)) fun Q5 => cnd t30_4 (fun Q10 => run S (.iad 1 (.c (e2 3)) (.c (.int .i64 0))) [] H fun t32_12 H => run S (.ld (.c t32_12)) [] H fun t33_13 H =>
  Q10 .ret (upd (upd (upd (upd (upd (upd (upd e2 28 (e2 3)) 29 t29_3) 30 t30_4) 31 (e2 3)) 32 t32_12) 33 t33_13) 2 t33_13) H) (fun Q11 => Q11 .normal (upd (upd (upd e2
  28 (e2 3)) 29 t29_3) 30 t30_4) H) Q5) (fn [(.t 2)] R)) fun Q1 => jn (blk 0 Q1) fun Q14 => WL S b42_1 (upd (upd (upd (Env.get [a0]) 2 (.int .i64 0)) 3 (.slice none 0
  0)) 4 (.int .i64 0)) H Q14
theorem h42 (S : Sys) (a0 : Value) (H : Heap) (R : Kv) : wpC S k42.body (Env.get [a0]) H (fn [(.t 2)] R) = s42 S a0 H R := by kernel_rfl
theorem w42 {S : Sys} (hR : S.R 42 = none) (hF : S.F 42 = some k42) (a0 : Value) {H : Heap} {R : Kv} (h : s42 S a0 H R) : Wf S 42 [a0] H R := Wf_sh hR hF ((h42 S a0 H
  R).mpr h)
end Go.Proofs.Ytlboioplemlneaa.K
