/- The functions as nested words with named values, each held against its code by the kernel. Printed by a program of this work (sh.py). -/
import Derived.Test.YtlboioplemlneaaGreatKLowCode
set_option maxRecDepth 100000
set_option linter.unusedVariables false
namespace Go.Proofs.YtlboioplemlneaaGreat.K
open Go Go.Proofs
def s3 (S : Sys) (a0 a1 : Value) (H : Heap) (R : Kv) : Prop := run S (.call 5 []) [] H fun t11_1 H => run S (.un .not (.c t11_1)) [] H fun t12_2 H => jn (sq (fun e4 H =>
  run S (.lenS (.c (e4 0))) [] H fun t14_5 H => run S (.bin .gtr (.c t14_5) (.c (.int .i64 300))) [] H fun t15_6 H => gd t15_6 false (run S (.mv (.c (e4 1))) [] H) H fun
  t17_7 H => gd t15_6 false (run S (.lenS (.c t17_7)) [] H) H fun t18_8 H => gd t15_6 false (run S (.bin .gtr (.c t18_8) (.c (.int .i64 20))) [] H) H fun t19_9 H => run
  S (.pick (.c t15_6) (.c (.bool true)) (.c t19_9)) [] H fun t20_10 H => jn (sq (fun e12 H => run S (.call 6 [(.c (e12 0))]) [] H fun t22_13 H => run S (.bin .add (.c
  t22_13) (.c (e12 1))) [] H fun t26_14 H => run S (.lenS (.c (e12 0))) [] H fun t28_15 H => run S (.call 7 [(.c t26_14), (.c t28_15)]) [] H fun t29_16 H => run S (.xt
  (.c t29_16) 0) [] H fun t30_17 H => run S (.xt (.c t29_16) 1) [] H fun t31_18 H => run S (.bin .add (.c t22_13) (.c (e12 1))) [] H fun t34_19 H => run S (.call 8 [(.c
  t34_19)]) [] H fun t35_20 H => run S (.lenS (.c (e12 0))) [] H fun t39_21 H => run S (.call 9 [(.c t35_20), (.c t39_21)]) [] H fun t40_22 H => run S (.xt (.c t40_22)
  0) [] H fun t41_23 H => run S (.xt (.c t40_22) 1) [] H fun t42_24 H => run S (.lenS (.c t22_13)) [] H fun t44_25 H => run S (.call 10 [(.c (e12 0))]) [] H fun t46_26 H
  => run S (.lenS (.c t46_26)) [] H fun t47_27 H => run S (.bin .leq (.c t44_25) (.c t47_27)) [] H fun t48_28 H => gd t48_28 true (run S (.mv (.c (e12 0))) [] H) H fun
  t50_29 H => gd t48_28 true (run S (.call 10 [(.c t50_29)]) [] H) H fun t51_30 H => gd t48_28 true (run S (.mv (.c (e12 0))) [] H) H fun t52_31 H => gd t48_28 true (run
  S (.call 11 [(.c t52_31)]) [] H) H fun t53_32 H => gd t48_28 true (run S (.bin .add (.c (.string (bs [0]))) (.c t53_32)) [] H) H fun t54_33 H => gd t48_28 true (run S
  (.bin .eql (.c t51_30) (.c t54_33)) [] H) H fun t55_34 H => run S (.pick (.c t48_28) (.c t55_34) (.c (.bool false))) [] H fun t56_35 H => gd t56_35 true (run S (.mv
  (.c t31_18)) [] H) H fun t58_36 H => gd t56_35 true (run S (.mv (.c t22_13)) [] H) H fun t59_37 H => gd t56_35 true (run S (.lenS (.c t59_37)) [] H) H fun t60_38 H =>
  gd t56_35 true (run S (.bin .eql (.c t58_36) (.c t60_38)) [] H) H fun t61_39 H => run S (.pick (.c t56_35) (.c t61_39) (.c (.bool false))) [] H fun t62_40 H => gd
  t62_40 true (run S (.mv (.c t30_17)) [] H) H fun t64_41 H => gd t62_40 true (run S (.mv (.c (e12 0))) [] H) H fun t65_42 H => gd t62_40 true (run S (.bin .eql (.c
  t64_41) (.c t65_42)) [] H) H fun t66_43 H => run S (.pick (.c t62_40) (.c t66_43) (.c (.bool false))) [] H fun t67_44 H => gd t67_44 true (run S (.mv (.c t42_24)) []
  H) H fun t69_45 H => run S (.pick (.c t67_44) (.c t69_45) (.c (.bool false))) [] H fun t70_46 H => gd t70_46 true (run S (.mv (.c t41_23)) [] H) H fun t72_47 H => gd
  t70_46 true (run S (.mv (.c (e12 0))) [] H) H fun t73_48 H => gd t70_46 true (run S (.bin .eql (.c t72_47) (.c t73_48)) [] H) H fun t74_49 H => run S (.pick (.c
  t70_46) (.c t74_49) (.c (.bool false))) [] H fun t75_50 H => gd t75_50 true (run S (.mv (.c t35_20)) [] H) H fun t77_51 H => gd t75_50 true (run S (.call 12 [(.c
  t77_51)]) [] H) H fun t78_52 H => gd t75_50 true (run S (.mv (.c (e12 1))) [] H) H fun t79_53 H => gd t75_50 true (run S (.bin .eql (.c t78_52) (.c t79_53)) [] H) H
  fun t80_54 H => run S (.pick (.c t75_50) (.c t80_54) (.c (.bool false))) [] H fun t81_55 H => R t81_55 H) (fn [(.t 4)] R)) fun Q11 => cnd t20_10 (fun Q56 => Q56 .ret
  (upd (upd (upd (upd (upd (upd (upd (upd (upd e4 13 (e4 0)) 14 t14_5) 15 t15_6) 16 t15_6) 17 t17_7) 18 t18_8) 19 t19_9) 20 t20_10) 4 (.bool true)) H) (fun Q57 => Q57
  .normal (upd (upd (upd (upd (upd (upd (upd (upd e4 13 (e4 0)) 14 t14_5) 15 t15_6) 16 t15_6) 17 t17_7) 18 t18_8) 19 t19_9) 20 t20_10) H) Q11) (fn [(.t 4)] R)) fun Q3 =>
  cnd t12_2 (fun Q58 => Q58 .ret (upd (upd (upd (upd (Env.get [a0, a1]) 4 (.bool false)) 11 t11_1) 12 t12_2) 4 (.bool false)) H) (fun Q59 => Q59 .normal (upd (upd (upd
  (Env.get [a0, a1]) 4 (.bool false)) 11 t11_1) 12 t12_2) H) Q3
theorem h3 (S : Sys) (a0 a1 : Value) (H : Heap) (R : Kv) : wpC S k3.body (Env.get [a0, a1]) H (fn [(.t 4)] R) = s3 S a0 a1 H R := by kernel_rfl
theorem w3 {S : Sys} (hR : S.R 3 = none) (hF : S.F 3 = some k3) (a0 a1 : Value) {H : Heap} {R : Kv} (h : s3 S a0 a1 H R) : Wf S 3 [a0, a1] H R := Wf_sh hR hF ((h3 S a0
  a1 H R).mpr h)
def s6 (S : Sys) (a0 : Value) (H : Heap) (R : Kv) : Prop := run S (.call 13 [(.c a0)]) [] H fun t7_1 H => jn (sq (fun e3 H => run S (.call 10 [(.c (e3 0))]) [] H fun
  t16_4 H => run S (.call 17 [(.c (e3 0))]) [] H fun t19_5 H => run S (.xt (.c t19_5) 0) [] H fun t20_6 H => run S (.xt (.c t19_5) 1) [] H fun t21_7 H => gd t21_7 true
  (run S (.mv (.c t20_6)) [] H) H fun t24_8 H => gd t21_7 true (run S (.lenS (.c t24_8)) [] H) H fun t25_9 H => gd t21_7 true (run S (.mv (.c t16_4)) [] H) H fun t26_10
  H => gd t21_7 true (run S (.lenS (.c t26_10)) [] H) H fun t27_11 H => gd t21_7 true (run S (.bin .lss (.c t25_9) (.c t27_11)) [] H) H fun t28_12 H => run S (.pick (.c
  t21_7) (.c t28_12) (.c (.bool false))) [] H fun t29_13 H => jn (sq (fun e15 H => R (e15 3) H) (fn [(.t 2)] R)) fun Q14 => cnd t29_13 (fun Q16 => Q16 .ret (upd (upd
  (upd (upd (upd (upd (upd (upd (upd (upd (upd (upd (upd (upd (upd (upd (upd (upd (upd (upd e3 15 (e3 0)) 16 t16_4) 3 t16_4) 18 (e3 0)) 19 t19_5) 17 t19_5) 20 t20_6) 21
  t21_7) 4 t20_6) 5 t21_7) 22 t21_7) 23 t21_7) 24 t24_8) 25 t25_9) 26 t26_10) 27 t27_11) 28 t28_12) 29 t29_13) 30 t20_6) 2 t20_6) H) (fun Q17 => Q17 .normal (upd (upd
  (upd (upd (upd (upd (upd (upd (upd (upd (upd (upd (upd (upd (upd (upd (upd (upd e3 15 (e3 0)) 16 t16_4) 3 t16_4) 18 (e3 0)) 19 t19_5) 17 t19_5) 20 t20_6) 21 t21_7) 4
  t20_6) 5 t21_7) 22 t21_7) 23 t21_7) 24 t24_8) 25 t25_9) 26 t26_10) 27 t27_11) 28 t28_12) 29 t29_13) H) Q14) (fn [(.t 2)] R)) fun Q2 => cnd t7_1 (fun Q18 => run S
  (.lenS (.c a0)) [] H fun t9_20 H => run S (.slS (.c a0) none (some (.c (.int .i64 1)))) [] H fun t12_21 H => run S (.call 14 [(.c (.int .i64 1)), (.c t9_20)]) [] H fun
  t10_22 H => run S (.call 15 [(.c t10_22), (.c t12_21)]) [] H fun t13_23 H => run S (.call 16 [(.c t13_23)]) [] H fun t14_24 H => Q18 .ret (upd (upd (upd (upd (upd (upd
  (upd (upd (upd (upd (upd (Env.get [a0]) 2 (.string (bs []))) 6 a0) 7 t7_1) 8 a0) 9 t9_20) 11 a0) 12 t12_21) 10 t10_22) 13 t13_23) 14 t14_24) 2 t14_24) H) (fun Q19 =>
  Q19 .normal (upd (upd (upd (Env.get [a0]) 2 (.string (bs []))) 6 a0) 7 t7_1) H) Q2
theorem h6 (S : Sys) (a0 : Value) (H : Heap) (R : Kv) : wpC S k6.body (Env.get [a0]) H (fn [(.t 2)] R) = s6 S a0 H R := by kernel_rfl
theorem w6 {S : Sys} (hR : S.R 6 = none) (hF : S.F 6 = some k6) (a0 : Value) {H : Heap} {R : Kv} (h : s6 S a0 H R) : Wf S 6 [a0] H R := Wf_sh hR hF ((h6 S a0 H R).mpr h)
def b7_0 : KCode := (.seq (.seq (.reg [(.op (some 71) none (.mv (.t 11))), (.op (some 72) none (.mv (.t 8))), (.op (some 73) none (.bin .lss (.t 71) (.t 72)))]) (.cond
  (.t 73) .skip (.exit 1))) (.seq (.block 2 (.reg [(.op (some 76) none (.mv (.t 10))), (.op (some 77) none (.mv (.t 11))), (.op (some 78) none (.mv (.t 0))), (.op (some
  79) none (.mv (.t 9))), (.op (some 80) none (.idS (.t 78) (.t 79))), (.op (some 81) none (.iad 1 (.t 76) (.t 77))), (.op none none (.st (.t 81) (.t 80)))])) (.reg
  [(.op (some 74) none (.mv (.t 11))), (.op (some 75) none (.bin .add (.t 74) (.c (.int .i64 1)))), (.op (some 11) none (.mv (.t 75)))])))
def s7_0 (S : Sys) (e : Fe) (H : Heap) (Q : Kx) : Prop := run S (.bin .lss (.c (e 11)) (.c (e 8))) [] H fun t73_107 H => jn (sq (fun e109 H => jn (sq (fun e111 H => run
  S (.bin .add (.c (e111 11)) (.c (.int .i64 1))) [] H fun t75_112 H => Q .normal (upd (upd (upd e111 74 (e111 11)) 75 t75_112) 11 t75_112) H) Q) fun Q110 => run S (.idS
  (.c (e109 0)) (.c (e109 9))) [] H fun t80_113 H => run S (.iad 1 (.c (e109 10)) (.c (e109 11))) [] H fun t81_114 H => run S (.st (.c t81_114) (.c t80_113)) [] H fun _
  H => Q110 .normal (upd (upd (upd (upd (upd (upd e109 76 (e109 10)) 77 (e109 11)) 78 (e109 0)) 79 (e109 9)) 80 t80_113) 81 t81_114) H) Q) fun Q108 => cnd t73_107 (fun
  Q115 => Q115 .normal (upd (upd (upd e 71 (e 11)) 72 (e 8)) 73 t73_107) H) (fun Q116 => Q116 (.exit 1) (upd (upd (upd e 71 (e 11)) 72 (e 8)) 73 t73_107) H) Q108
theorem h7_0 (S : Sys) (e : Fe) (H : Heap) (Q : Kx) : wpC S b7_0 e H Q = s7_0 S e H Q := by kernel_rfl
theorem l7_0 (S : Sys) {Q : Kx} (I : Nat → Fe → Heap → Prop) (d : Nat) {e0 : Fe} {H : Heap} (h0 : I d e0 H) (hr : ∀ (d : Nat) (e : Fe) (H : Heap), I d e H → s7_0 S e H
  (sq (fun e' H' => ∃ d', d' < d ∧ I d' e' H') Q)) : WL S b7_0 e0 H Q := WL_inv I d h0 fun d e H hi => (h7_0 S e H _).mpr (hr d e H hi)
theorem u7_0 (S : Sys) {Q : Kx} {e : Fe} {H : Heap} (h : s7_0 S e H (sq (fun e' H' => WL S b7_0 e' H' Q) Q)) : WL S b7_0 e H Q := WL_once ((h7_0 S e H _).mpr h)
def s7 (S : Sys) (a0 a1 : Value) (H : Heap) (R : Kv) : Prop := run S (.bin .eql (.c a0) (.c (.string (bs [])))) [] H fun t17_1 H => jn (sq (fun e3 H => run S (.slS (.c
  (e3 0)) (some (.c (.int .i64 1))) none) [] H fun t20_4 H => run S (.call 18 [(.c t20_4)]) [] H fun t21_5 H => run S (.xt (.c t21_5) 0) [] H fun t22_6 H => run S (.xt
  (.c t21_5) 1) [] H fun t23_7 H => run S (.bin .eql (.c t23_7) (.c (.int .i64 0))) [] H fun t25_8 H => gd t25_8 false (run S (.mv (.c (e3 1))) [] H) H fun t27_9 H => gd
  t25_8 false (run S (.bin .lss (.c t27_9) (.c (.int .i64 0))) [] H) H fun t28_10 H => run S (.pick (.c t25_8) (.c (.bool true)) (.c t28_10)) [] H fun t29_11 H => gd
  t29_11 false (run S (.mv (.c t22_6)) [] H) H fun t31_12 H => gd t29_11 false (run S (.mv (.c (e3 1))) [] H) H fun t32_13 H => gd t29_11 false (run S (.cvt .u64 (.c
  t32_13)) [] H) H fun t33_14 H => gd t29_11 false (run S (.bin .gtr (.c t31_12) (.c t33_14)) [] H) H fun t34_15 H => run S (.pick (.c t29_11) (.c (.bool true)) (.c
  t34_15)) [] H fun t35_16 H => gd t35_16 false (run S (.mv (.c t22_6)) [] H) H fun t37_17 H => gd t35_16 false (run S (.bin .gtr (.c t37_17) (.c (.int .u64 1048576)))
  [] H) H fun t38_18 H => run S (.pick (.c t35_16) (.c (.bool true)) (.c t38_18)) [] H fun t39_19 H => jn (sq (fun e21 H => run S (.cvt .i64 (.c (e21 6))) [] H fun
  t41_22 H => run S (.bin .add (.c (.int .i64 1)) (.c (e21 7))) [] H fun t43_23 H => run S (.idS (.c (e21 0)) (.c (.int .i64 0))) [] H fun t45_24 H => jn (sq (fun e26 H
  => R (tup [(.string (bs [])), (.int .i64 0)]) H) (fn [(.t 4), (.t 5)] R)) fun Q25 => run S (.bin .eql (.c t45_24) (.c (.int .u8 0))) [] H fun t47_27 H => jn (blk 0
  Q25) fun Q28 => cnd t47_27 (fun Q29 => run S (.lenS (.c (e21 0))) [] H fun t50_31 H => run S (.bin .sub (.c t50_31) (.c t43_23)) [] H fun t52_32 H => run S (.bin .gtr
  (.c t41_22) (.c t52_32)) [] H fun t53_33 H => jn (sq (fun e35 H => run S (.bin .add (.c (e35 9)) (.c (e35 8))) [] H fun t58_36 H => run S (.slS (.c (e35 0)) (some (.c
  (e35 9))) (some (.c t58_36))) [] H fun t59_37 H => run S (.bin .add (.c (e35 9)) (.c (e35 8))) [] H fun t62_38 H => Q29 .ret (upd (upd (upd (upd (upd (upd (upd (upd
  (upd (upd (upd e35 54 (e35 0)) 55 (e35 9)) 56 (e35 9)) 57 (e35 8)) 58 t58_36) 59 t59_37) 60 (e35 9)) 61 (e35 8)) 62 t62_38) 4 t59_37) 5 t62_38) H) Q29) fun Q34 => cnd
  t53_33 (fun Q39 => Q39 .ret (upd (upd (upd (upd (upd (upd (upd (upd (upd (upd (upd (upd (upd (upd (upd (upd (upd (upd e21 40 (e21 6)) 41 t41_22) 8 t41_22) 42 (e21 7))
  43 t43_23) 9 t43_23) 44 (e21 0)) 45 t45_24) 47 t47_27) 46 t47_27) 48 t41_22) 49 (e21 0)) 50 t50_31) 51 t43_23) 52 t52_32) 53 t53_33) 4 (.string (bs []))) 5 (.int .i64
  0)) H) (fun Q40 => Q40 .normal (upd (upd (upd (upd (upd (upd (upd (upd (upd (upd (upd (upd (upd (upd (upd (upd e21 40 (e21 6)) 41 t41_22) 8 t41_22) 42 (e21 7)) 43
  t43_23) 9 t43_23) 44 (e21 0)) 45 t45_24) 47 t47_27) 46 t47_27) 48 t41_22) 49 (e21 0)) 50 t50_31) 51 t43_23) 52 t52_32) 53 t53_33) H) Q34) (fun Q30 => run S (.bin .eql
  (.c t45_24) (.c (.int .u8 1))) [] H fun t64_41 H => cnd t64_41 (fun Q42 => run S (.lenS (.c (e21 0))) [] H fun t67_44 H => run S (.bin .geq (.c t43_23) (.c t67_44)) []
  H fun t68_45 H => jn (sq (fun e47 H => run S (.mks 5 [(.int .u8 0)] 1 (.c (e47 8)) (.c (e47 8))) [] H fun t70_48 H => jn (sq (fun e50 H => run S (.b2s 5 (.c (e50 10)))
  [] H fun t83_51 H => run S (.bin .add (.c (e50 9)) (.c (.int .i64 1))) [] H fun t85_52 H => Q42 .ret (upd (upd (upd (upd (upd (upd e50 82 (e50 10)) 83 t83_51) 84 (e50
  9)) 85 t85_52) 4 t83_51) 5 t85_52) H) Q42) fun Q49 => jn (blk 1 Q49) fun Q53 => WL S b7_0 (upd (upd (upd (upd e47 69 (e47 8)) 70 t70_48) 10 t70_48) 11 (.int .i64 0)) H
  Q53) Q42) fun Q46 => cnd t68_45 (fun Q54 => Q54 .ret (upd (upd (upd (upd (upd (upd (upd (upd (upd (upd (upd (upd (upd (upd (upd (upd (upd (upd e21 40 (e21 6)) 41
  t41_22) 8 t41_22) 42 (e21 7)) 43 t43_23) 9 t43_23) 44 (e21 0)) 45 t45_24) 47 t47_27) 46 t47_27) 64 t64_41) 63 t64_41) 65 t43_23) 66 (e21 0)) 67 t67_44) 68 t68_45) 4
  (.string (bs []))) 5 (.int .i64 0)) H) (fun Q55 => Q55 .normal (upd (upd (upd (upd (upd (upd (upd (upd (upd (upd (upd (upd (upd (upd (upd (upd e21 40 (e21 6)) 41
  t41_22) 8 t41_22) 42 (e21 7)) 43 t43_23) 9 t43_23) 44 (e21 0)) 45 t45_24) 47 t47_27) 46 t47_27) 64 t64_41) 63 t64_41) 65 t43_23) 66 (e21 0)) 67 t67_44) 68 t68_45) H)
  Q46) (fun Q43 => run S (.bin .eql (.c t45_24) (.c (.int .u8 2))) [] H fun t87_56 H => cnd t87_56 (fun Q57 => run S (.slS (.c (e21 0)) (some (.c t43_23)) none) [] H fun
  t91_59 H => run S (.call 19 [(.c t91_59)]) [] H fun t92_60 H => run S (.xt (.c t92_60) 0) [] H fun t93_61 H => run S (.xt (.c t92_60) 1) [] H fun t94_62 H => run S
  (.bin .eql (.c t94_62) (.c (.int .i64 0))) [] H fun t96_63 H => jn (sq (fun e65 H => run S (.bin .add (.c (e65 9)) (.c (e65 13))) [] H fun t99_66 H => run S (.slS (.c
  (e65 0)) (some (.c t99_66)) none) [] H fun t103_67 H => run S (.call 18 [(.c t103_67)]) [] H fun t104_68 H => run S (.xt (.c t104_68) 0) [] H fun t105_69 H => run S
  (.xt (.c t104_68) 1) [] H fun t106_70 H => run S (.bin .eql (.c t106_70) (.c (.int .i64 0))) [] H fun t108_71 H => gd t108_71 false (run S (.mv (.c t105_69)) [] H) H
  fun t110_72 H => gd t108_71 false (run S (.mv (.c (e65 0))) [] H) H fun t111_73 H => gd t108_71 false (run S (.lenS (.c t111_73)) [] H) H fun t112_74 H => gd t108_71
  false (run S (.mv (.c t99_66)) [] H) H fun t113_75 H => gd t108_71 false (run S (.bin .sub (.c t112_74) (.c t113_75)) [] H) H fun t114_76 H => gd t108_71 false (run S
  (.mv (.c t106_70)) [] H) H fun t115_77 H => gd t108_71 false (run S (.bin .sub (.c t114_76) (.c t115_77)) [] H) H fun t116_78 H => gd t108_71 false (run S (.cvt .u64
  (.c t116_78)) [] H) H fun t117_79 H => gd t108_71 false (run S (.bin .gtr (.c t110_72) (.c t117_79)) [] H) H fun t118_80 H => run S (.pick (.c t108_71) (.c (.bool
  true)) (.c t118_80)) [] H fun t119_81 H => jn (sq (fun e83 H => run S (.bin .add (.c (e83 9)) (.c (e83 7))) [] H fun t122_84 H => run S (.cvt .i64 (.c (e83 6))) [] H
  fun t129_85 H => run S (.bin .add (.c t122_84) (.c t129_85)) [] H fun t130_86 H => run S (.slS (.c (e83 0)) (some (.c t122_84)) (some (.c t130_86))) [] H fun t131_87 H
  => run S (.call 20 [(.c (e83 12)), (.c t131_87), (.c (e83 8))]) [] H fun t133_88 H => run S (.xt (.c t133_88) 0) [] H fun t134_89 H => run S (.xt (.c t133_88) 1) [] H
  fun t135_90 H => run S (.un .not (.c t135_90)) [] H fun t137_91 H => jn (sq (fun e93 H => run S (.b2s 5 (.c (e93 14))) [] H fun t139_94 H => run S (.cvt .i64 (.c (e93
  6))) [] H fun t142_95 H => run S (.bin .add (.c (e93 9)) (.c t142_95)) [] H fun t143_96 H => Q57 .ret (upd (upd (upd (upd (upd (upd (upd (upd e93 138 (e93 14)) 139
  t139_94) 140 (e93 9)) 141 (e93 6)) 142 t142_95) 143 t143_96) 4 t139_94) 5 t143_96) H) Q57) fun Q92 => cnd t137_91 (fun Q97 => Q97 .ret (upd (upd (upd (upd (upd (upd
  (upd (upd (upd (upd (upd (upd (upd (upd (upd (upd (upd (upd (upd (upd (upd (upd (upd e83 120 (e83 9)) 121 (e83 7)) 122 t122_84) 9 t122_84) 124 (e83 12)) 125 (e83 0))
  126 t122_84) 127 t122_84) 128 (e83 6)) 129 t129_85) 130 t130_86) 131 t131_87) 132 (e83 8)) 133 t133_88) 123 t133_88) 134 t134_89) 135 t135_90) 14 t134_89) 15 t135_90)
  136 t135_90) 137 t137_91) 4 (.string (bs []))) 5 (.int .i64 0)) H) (fun Q98 => Q98 .normal (upd (upd (upd (upd (upd (upd (upd (upd (upd (upd (upd (upd (upd (upd (upd
  (upd (upd (upd (upd (upd (upd e83 120 (e83 9)) 121 (e83 7)) 122 t122_84) 9 t122_84) 124 (e83 12)) 125 (e83 0)) 126 t122_84) 127 t122_84) 128 (e83 6)) 129 t129_85) 130
  t130_86) 131 t131_87) 132 (e83 8)) 133 t133_88) 123 t133_88) 134 t134_89) 135 t135_90) 14 t134_89) 15 t135_90) 136 t135_90) 137 t137_91) H) Q92) Q57) fun Q82 => cnd
  t119_81 (fun Q99 => Q99 .ret (upd (upd (upd (upd (upd (upd (upd (upd (upd (upd (upd (upd (upd (upd (upd (upd (upd (upd (upd (upd (upd (upd (upd (upd (upd (upd (upd
  (upd e65 97 (e65 9)) 98 (e65 13)) 99 t99_66) 9 t99_66) 101 (e65 0)) 102 t99_66) 103 t103_67) 104 t104_68) 100 t104_68) 105 t105_69) 106 t106_70) 6 t105_69) 7 t106_70)
  107 t106_70) 108 t108_71) 109 t108_71) 110 t110_72) 111 t111_73) 112 t112_74) 113 t113_75) 114 t114_76) 115 t115_77) 116 t116_78) 117 t117_79) 118 t118_80) 119
  t119_81) 4 (.string (bs []))) 5 (.int .i64 0)) H) (fun Q100 => Q100 .normal (upd (upd (upd (upd (upd (upd (upd (upd (upd (upd (upd (upd (upd (upd (upd (upd (upd (upd
  (upd (upd (upd (upd (upd (upd (upd (upd e65 97 (e65 9)) 98 (e65 13)) 99 t99_66) 9 t99_66) 101 (e65 0)) 102 t99_66) 103 t103_67) 104 t104_68) 100 t104_68) 105 t105_69)
  106 t106_70) 6 t105_69) 7 t106_70) 107 t106_70) 108 t108_71) 109 t108_71) 110 t110_72) 111 t111_73) 112 t112_74) 113 t113_75) 114 t114_76) 115 t115_77) 116 t116_78)
  117 t117_79) 118 t118_80) 119 t119_81) H) Q82) Q57) fun Q64 => cnd t96_63 (fun Q101 => Q101 .ret (upd (upd (upd (upd (upd (upd (upd (upd (upd (upd (upd (upd (upd (upd
  (upd (upd (upd (upd (upd (upd (upd (upd (upd (upd (upd (upd (upd e21 40 (e21 6)) 41 t41_22) 8 t41_22) 42 (e21 7)) 43 t43_23) 9 t43_23) 44 (e21 0)) 45 t45_24) 47
  t47_27) 46 t47_27) 64 t64_41) 63 t64_41) 87 t87_56) 86 t87_56) 89 (e21 0)) 90 t43_23) 91 t91_59) 92 t92_60) 88 t92_60) 93 t93_61) 94 t94_62) 12 t93_61) 13 t94_62) 95
  t94_62) 96 t96_63) 4 (.string (bs []))) 5 (.int .i64 0)) H) (fun Q102 => Q102 .normal (upd (upd (upd (upd (upd (upd (upd (upd (upd (upd (upd (upd (upd (upd (upd (upd
  (upd (upd (upd (upd (upd (upd (upd (upd (upd e21 40 (e21 6)) 41 t41_22) 8 t41_22) 42 (e21 7)) 43 t43_23) 9 t43_23) 44 (e21 0)) 45 t45_24) 47 t47_27) 46 t47_27) 64
  t64_41) 63 t64_41) 87 t87_56) 86 t87_56) 89 (e21 0)) 90 t43_23) 91 t91_59) 92 t92_60) 88 t92_60) 93 t93_61) 94 t94_62) 12 t93_61) 13 t94_62) 95 t94_62) 96 t96_63) H)
  Q64) (fun Q58 => Q58 .normal (upd (upd (upd (upd (upd (upd (upd (upd (upd (upd (upd (upd (upd (upd e21 40 (e21 6)) 41 t41_22) 8 t41_22) 42 (e21 7)) 43 t43_23) 9
  t43_23) 44 (e21 0)) 45 t45_24) 47 t47_27) 46 t47_27) 64 t64_41) 63 t64_41) 87 t87_56) 86 t87_56) H) Q43) Q30) Q28) (fn [(.t 4), (.t 5)] R)) fun Q20 => cnd t39_19 (fun
  Q103 => Q103 .ret (upd (upd (upd (upd (upd (upd (upd (upd (upd (upd (upd (upd (upd (upd (upd (upd (upd (upd (upd (upd (upd (upd (upd (upd (upd (upd e3 19 (e3 0)) 20
  t20_4) 21 t21_5) 18 t21_5) 22 t22_6) 23 t23_7) 6 t22_6) 7 t23_7) 24 t23_7) 25 t25_8) 26 t25_8) 27 t27_9) 28 t28_10) 29 t29_11) 30 t29_11) 31 t31_12) 32 t32_13) 33
  t33_14) 34 t34_15) 35 t35_16) 36 t35_16) 37 t37_17) 38 t38_18) 39 t39_19) 4 (.string (bs []))) 5 (.int .i64 0)) H) (fun Q104 => Q104 .normal (upd (upd (upd (upd (upd
  (upd (upd (upd (upd (upd (upd (upd (upd (upd (upd (upd (upd (upd (upd (upd (upd (upd (upd (upd e3 19 (e3 0)) 20 t20_4) 21 t21_5) 18 t21_5) 22 t22_6) 23 t23_7) 6 t22_6)
  7 t23_7) 24 t23_7) 25 t25_8) 26 t25_8) 27 t27_9) 28 t28_10) 29 t29_11) 30 t29_11) 31 t31_12) 32 t32_13) 33 t33_14) 34 t34_15) 35 t35_16) 36 t35_16) 37 t37_17) 38
  t38_18) 39 t39_19) H) Q20) (fn [(.t 4), (.t 5)] R)) fun Q2 => cnd t17_1 (fun Q105 => Q105 .ret (upd (upd (upd (upd (upd (upd (Env.get [a0, a1]) 4 (.string (bs []))) 5
  (.int .i64 0)) 16 a0) 17 t17_1) 4 (.string (bs []))) 5 (.int .i64 0)) H) (fun Q106 => Q106 .normal (upd (upd (upd (upd (Env.get [a0, a1]) 4 (.string (bs []))) 5 (.int
  .i64 0)) 16 a0) 17 t17_1) H) Q2
theorem h7 (S : Sys) (a0 a1 : Value) (H : Heap) (R : Kv) : wpC S k7.body (Env.get [a0, a1]) H (fn [(.t 4), (.t 5)] R) = s7 S a0 a1 H R := by kernel_rfl
theorem w7 {S : Sys} (hR : S.R 7 = none) (hF : S.F 7 = some k7) (a0 a1 : Value) {H : Heap} {R : Kv} (h : s7 S a0 a1 H R) : Wf S 7 [a0, a1] H R := Wf_sh hR hF ((h7 S a0
  a1 H R).mpr h)
def s8 (S : Sys) (a0 : Value) (H : Heap) (R : Kv) : Prop := run S (.build [(.string (bs [])), (.bool false)] [(0, (1, (.c a0)))]) [] H fun t4_1 H => run S (.box 48 (.c
  t4_1)) [] H fun t5_2 H => R t5_2 H
theorem h8 (S : Sys) (a0 : Value) (H : Heap) (R : Kv) : wpC S k8.body (Env.get [a0]) H (fn [(.t 2)] R) = s8 S a0 H R := by kernel_rfl
theorem w8 {S : Sys} (hR : S.R 8 = none) (hF : S.F 8 = some k8) (a0 : Value) {H : Heap} {R : Kv} (h : s8 S a0 H R) : Wf S 8 [a0] H R := Wf_sh hR hF ((h8 S a0 H R).mpr h)
def s9 (S : Sys) (a0 a1 : Value) (H : Heap) (R : Kv) : Prop := run S (.call 21 [(.c a0), (.c (.int .i64 1))]) [] H fun t11_1 H => run S (.mn (.c a1) [(.c (.int .i64
  1048576))]) [] H fun t14_2 H => run S (.call 22 [(.c a0), (.c t14_2)]) [] H fun t15_3 H => run S (.call 23 [(.c a0)]) [] H fun t17_4 H => jn (sq (fun e6 H => jn (sq
  (fun e8 H => R (tup [(.string (bs [])), (.bool false)]) H) (fn [(.t 4), (.t 5)] R)) fun Q7 => run S (.bin .eql (.c (e6 6)) (.c (.int .u64 0))) [] H fun t20_9 H => jn
  (blk 0 Q7) fun Q10 => cnd t20_9 (fun Q11 => run S (.call 24 [(.c (e6 0)), (.c (e6 7))]) [] H fun t23_13 H => run S (.call 23 [(.c (e6 0))]) [] H fun t26_14 H => run S
  (.un .not (.c t26_14)) [] H fun t27_15 H => Q11 .ret (upd (upd (upd (upd (upd (upd (upd (upd (upd (upd (upd (upd (upd e6 18 (e6 6)) 20 t20_9) 19 t20_9) 21 (e6 0)) 22
  (e6 7)) 23 t23_13) 8 t23_13) 24 t23_13) 25 (e6 0)) 26 t26_14) 27 t27_15) 4 t23_13) 5 t27_15) H) (fun Q12 => run S (.bin .eql (.c (e6 6)) (.c (.int .u64 1))) [] H fun
  t29_16 H => cnd t29_16 (fun Q17 => run S (.call 24 [(.c (e6 0)), (.c (.int .i64 1))]) [] H fun t31_19 H => run S (.call 23 [(.c (e6 0))]) [] H fun t33_20 H => jn (sq
  (fun e22 H => run S (.call 25 [(.c (e22 9)), (.c (e22 7))]) [] H fun t36_23 H => Q17 .ret (upd (upd (upd (upd (upd e22 34 (e22 9)) 35 (e22 7)) 36 t36_23) 4 t36_23) 5
  (.bool true)) H) Q17) fun Q21 => cnd t33_20 (fun Q24 => Q24 .ret (upd (upd (upd (upd (upd (upd (upd (upd (upd (upd (upd (upd e6 18 (e6 6)) 20 t20_9) 19 t20_9) 29
  t29_16) 28 t29_16) 30 (e6 0)) 31 t31_19) 9 t31_19) 32 (e6 0)) 33 t33_20) 4 (.string (bs []))) 5 (.bool false)) H) (fun Q25 => Q25 .normal (upd (upd (upd (upd (upd (upd
  (upd (upd (upd (upd e6 18 (e6 6)) 20 t20_9) 19 t20_9) 29 t29_16) 28 t29_16) 30 (e6 0)) 31 t31_19) 9 t31_19) 32 (e6 0)) 33 t33_20) H) Q21) (fun Q18 => run S (.bin .eql
  (.c (e6 6)) (.c (.int .u64 2))) [] H fun t38_26 H => cnd t38_26 (fun Q27 => run S (.call 26 [(.c (e6 0)), (.c (e6 7))]) [] H fun t41_29 H => run S (.xt (.c t41_29) 0)
  [] H fun t42_30 H => run S (.xt (.c t41_29) 1) [] H fun t43_31 H => Q27 .ret (upd (upd (upd (upd (upd (upd (upd (upd (upd (upd (upd (upd (upd (upd e6 18 (e6 6)) 20
  t20_9) 19 t20_9) 29 t29_16) 28 t29_16) 38 t38_26) 37 t38_26) 39 (e6 0)) 40 (e6 7)) 41 t41_29) 42 t42_30) 43 t43_31) 4 t42_30) 5 t43_31) H) (fun Q28 => Q28 .normal (upd
  (upd (upd (upd (upd (upd (upd e6 18 (e6 6)) 20 t20_9) 19 t20_9) 29 t29_16) 28 t29_16) 38 t38_26) 37 t38_26) H) Q18) Q12) Q10) (fn [(.t 4), (.t 5)] R)) fun Q5 => cnd
  t17_4 (fun Q32 => Q32 .ret (upd (upd (upd (upd (upd (upd (upd (upd (upd (upd (upd (upd (upd (upd (Env.get [a0, a1]) 4 (.string (bs []))) 5 (.bool false)) 10 a0) 11
  t11_1) 6 t11_1) 12 a0) 13 a1) 14 t14_2) 15 t15_3) 7 t15_3) 16 a0) 17 t17_4) 4 (.string (bs []))) 5 (.bool false)) H) (fun Q33 => Q33 .normal (upd (upd (upd (upd (upd
  (upd (upd (upd (upd (upd (upd (upd (Env.get [a0, a1]) 4 (.string (bs []))) 5 (.bool false)) 10 a0) 11 t11_1) 6 t11_1) 12 a0) 13 a1) 14 t14_2) 15 t15_3) 7 t15_3) 16 a0)
  17 t17_4) H) Q5
theorem h9 (S : Sys) (a0 a1 : Value) (H : Heap) (R : Kv) : wpC S k9.body (Env.get [a0, a1]) H (fn [(.t 4), (.t 5)] R) = s9 S a0 a1 H R := by kernel_rfl
theorem w9 {S : Sys} (hR : S.R 9 = none) (hF : S.F 9 = some k9) (a0 a1 : Value) {H : Heap} {R : Kv} (h : s9 S a0 a1 H R) : Wf S 9 [a0, a1] H R := Wf_sh hR hF ((h9 S a0
  a1 H R).mpr h)
def s10 (S : Sys) (a0 : Value) (H : Heap) (R : Kv) : Prop := run S (.lenS (.c a0)) [] H fun t4_1 H => run S (.call 14 [(.c (.int .i64 0)), (.c t4_1)]) [] H fun t5_2 H =>
  run S (.call 15 [(.c t5_2), (.c a0)]) [] H fun t7_3 H => run S (.call 16 [(.c t7_3)]) [] H fun t8_4 H => R t8_4 H
theorem h10 (S : Sys) (a0 : Value) (H : Heap) (R : Kv) : wpC S k10.body (Env.get [a0]) H (fn [(.t 2)] R) = s10 S a0 H R := by kernel_rfl
theorem w10 {S : Sys} (hR : S.R 10 = none) (hF : S.F 10 = some k10) (a0 : Value) {H : Heap} {R : Kv} (h : s10 S a0 H R) : Wf S 10 [a0] H R := Wf_sh hR hF ((h10 S a0 H
  R).mpr h)
def s11 (S : Sys) (a0 : Value) (H : Heap) (R : Kv) : Prop := run S (.lenS (.c a0)) [] H fun t4_1 H => run S (.cvt .u64 (.c t4_1)) [] H fun t5_2 H => run S (.call 27 [(.c
  t5_2)]) [] H fun t6_3 H => run S (.bin .add (.c t6_3) (.c a0)) [] H fun t8_4 H => R t8_4 H
theorem h11 (S : Sys) (a0 : Value) (H : Heap) (R : Kv) : wpC S k11.body (Env.get [a0]) H (fn [(.t 2)] R) = s11 S a0 H R := by kernel_rfl
theorem w11 {S : Sys} (hR : S.R 11 = none) (hF : S.F 11 = some k11) (a0 : Value) {H : Heap} {R : Kv} (h : s11 S a0 H R) : Wf S 11 [a0] H R := Wf_sh hR hF ((h11 S a0 H
  R).mpr h)
def s12 (S : Sys) (a0 : Value) (H : Heap) (R : Kv) : Prop := run S (.call 23 [(.c a0)]) [] H fun t4_1 H => jn (sq (fun e3 H => run S (.nck (.c (e3 0))) [] H fun t7_4 H
  => run S (.fad 0 (.c t7_4)) [] H fun t8_5 H => run S (.ld (.c t8_5)) [] H fun t9_6 H => run S (.lenS (.c t9_6)) [] H fun t10_7 H => run S (.call 24 [(.c (e3 0)), (.c
  t10_7)]) [] H fun t11_8 H => R t11_8 H) (fn [(.t 2)] R)) fun Q2 => cnd t4_1 (fun Q9 => Q9 .ret (upd (upd (upd (upd (Env.get [a0]) 2 (.string (bs []))) 3 a0) 4 t4_1) 2
  (.string (bs []))) H) (fun Q10 => Q10 .normal (upd (upd (upd (Env.get [a0]) 2 (.string (bs []))) 3 a0) 4 t4_1) H) Q2
theorem h12 (S : Sys) (a0 : Value) (H : Heap) (R : Kv) : wpC S k12.body (Env.get [a0]) H (fn [(.t 2)] R) = s12 S a0 H R := by kernel_rfl
theorem w12 {S : Sys} (hR : S.R 12 = none) (hF : S.F 12 = some k12) (a0 : Value) {H : Heap} {R : Kv} (h : s12 S a0 H R) : Wf S 12 [a0] H R := Wf_sh hR hF ((h12 S a0 H
  R).mpr h)
def s13 (S : Sys) (a0 : Value) (H : Heap) (R : Kv) : Prop := run S (.bin .neq (.c a0) (.c (.string (bs [])))) [] H fun t4_1 H => gd t4_1 true (run S (.mv (.c a0)) [] H)
  H fun t6_2 H => gd t4_1 true (run S (.mv (.c a0)) [] H) H fun t7_3 H => gd t4_1 true (run S (.slS (.c t7_3) none (some (.c (.int .i64 1)))) [] H) H fun t8_4 H => gd
  t4_1 true (run S (.mv (.c a0)) [] H) H fun t9_5 H => gd t4_1 true (run S (.lenS (.c t9_5)) [] H) H fun t10_6 H => gd t4_1 true (run S (.call 25 [(.c t8_4), (.c
  t10_6)]) [] H) H fun t11_7 H => gd t4_1 true (run S (.bin .eql (.c t6_2) (.c t11_7)) [] H) H fun t12_8 H => run S (.pick (.c t4_1) (.c t12_8) (.c (.bool false))) [] H
  fun t13_9 H => R t13_9 H
theorem h13 (S : Sys) (a0 : Value) (H : Heap) (R : Kv) : wpC S k13.body (Env.get [a0]) H (fn [(.t 2)] R) = s13 S a0 H R := by kernel_rfl
theorem w13 {S : Sys} (hR : S.R 13 = none) (hF : S.F 13 = some k13) (a0 : Value) {H : Heap} {R : Kv} (h : s13 S a0 H R) : Wf S 13 [a0] H R := Wf_sh hR hF ((h13 S a0 H
  R).mpr h)
def s14 (S : Sys) (a0 a1 : Value) (H : Heap) (R : Kv) : Prop := run S (.alloc 55 [(.slice none 0 0)]) [] H fun t5_1 H => run S (.cvt .u64 (.c a0)) [] H fun t7_2 H => run
  S (.call 28 [(.c t5_1), (.c t7_2), (.c (.int .i64 1))]) [] H fun t8_3 H => run S (.cvt .u64 (.c a1)) [] H fun t10_4 H => run S (.call 29 [(.c t8_3), (.c t10_4)]) [] H
  fun t11_5 H => R t11_5 H
theorem h14 (S : Sys) (a0 a1 : Value) (H : Heap) (R : Kv) : wpC S k14.body (Env.get [a0, a1]) H (fn [(.t 4)] R) = s14 S a0 a1 H R := by kernel_rfl
theorem w14 {S : Sys} (hR : S.R 14 = none) (hF : S.F 14 = some k14) (a0 a1 : Value) {H : Heap} {R : Kv} (h : s14 S a0 a1 H R) : Wf S 14 [a0, a1] H R := Wf_sh hR hF ((h14
  S a0 a1 H R).mpr h)
def s15 (S : Sys) (a0 a1 : Value) (H : Heap) (R : Kv) : Prop := run S (.eqv .ptr false (.c a0) (.c (.pointer none))) [] H fun t6_1 H => jn (sq (fun e3 H => run S (.nck
  (.c (e3 0))) [] H fun t9_4 H => run S (.fad 0 (.c t9_4)) [] H fun t10_5 H => run S (.ld (.c t10_5)) [] H fun t11_6 H => run S (.appS 5 (.c t11_6) (.c (e3 1))) [] H fun
  t13_7 H => run S (.nck (.c (e3 0))) [] H fun t14_8 H => run S (.fad 0 (.c t14_8)) [] H fun t15_9 H => run S (.st (.c t15_9) (.c t13_7)) [] H fun _ H => R (e3 0) H) (fn
  [(.t 4)] R)) fun Q2 => cnd t6_1 (fun Q10 => Q10 .ret (upd (upd (upd (upd (Env.get [a0, a1]) 4 (.pointer none)) 5 a0) 6 t6_1) 4 (.pointer none)) H) (fun Q11 => Q11
  .normal (upd (upd (upd (Env.get [a0, a1]) 4 (.pointer none)) 5 a0) 6 t6_1) H) Q2
theorem h15 (S : Sys) (a0 a1 : Value) (H : Heap) (R : Kv) : wpC S k15.body (Env.get [a0, a1]) H (fn [(.t 4)] R) = s15 S a0 a1 H R := by kernel_rfl
theorem w15 {S : Sys} (hR : S.R 15 = none) (hF : S.F 15 = some k15) (a0 a1 : Value) {H : Heap} {R : Kv} (h : s15 S a0 a1 H R) : Wf S 15 [a0, a1] H R := Wf_sh hR hF ((h15
  S a0 a1 H R).mpr h)
def s16 (S : Sys) (a0 : Value) (H : Heap) (R : Kv) : Prop := run S (.eqv .ptr false (.c a0) (.c (.pointer none))) [] H fun t4_1 H => jn (sq (fun e3 H => run S (.nck (.c
  (e3 0))) [] H fun t6_4 H => run S (.fad 0 (.c t6_4)) [] H fun t7_5 H => run S (.ld (.c t7_5)) [] H fun t8_6 H => run S (.b2s 5 (.c t8_6)) [] H fun t9_7 H => R t9_7 H)
  (fn [(.t 2)] R)) fun Q2 => cnd t4_1 (fun Q8 => Q8 .ret (upd (upd (upd (upd (Env.get [a0]) 2 (.string (bs []))) 3 a0) 4 t4_1) 2 (.string (bs []))) H) (fun Q9 => Q9
  .normal (upd (upd (upd (Env.get [a0]) 2 (.string (bs []))) 3 a0) 4 t4_1) H) Q2
theorem h16 (S : Sys) (a0 : Value) (H : Heap) (R : Kv) : wpC S k16.body (Env.get [a0]) H (fn [(.t 2)] R) = s16 S a0 H R := by kernel_rfl
theorem w16 {S : Sys} (hR : S.R 16 = none) (hF : S.F 16 = some k16) (a0 : Value) {H : Heap} {R : Kv} (h : s16 S a0 H R) : Wf S 16 [a0] H R := Wf_sh hR hF ((h16 S a0 H
  R).mpr h)
def s17 (S : Sys) (a0 : Value) (H : Heap) (R : Kv) : Prop := run S (.s2b 5 (.c a0)) [] H fun t11_1 H => run S (.call 31 [(.c t11_1)]) [] H fun t12_2 H => run S (.call 30
  [(.c t12_2)]) [] H fun t13_3 H => run S (.xt (.c t13_3) 0) [] H fun t14_4 H => run S (.xt (.c t13_3) 1) [] H fun t15_5 H => run S (.un .not (.c t15_5)) [] H fun t17_6
  H => jn (sq (fun e8 H => run S (.call 32 [(.c (e8 4))]) [] H fun t20_9 H => run S (.xt (.c t20_9) 0) [] H fun t21_10 H => run S (.xt (.c t20_9) 1) [] H fun t22_11 H =>
  run S (.s2b 5 (.c (e8 0))) [] H fun t26_12 H => run S (.call 33 [(.c (e8 4)), (.c t26_12)]) [] H fun t27_13 H => run S (.xt (.c t27_13) 0) [] H fun t28_14 H => run S
  (.xt (.c t27_13) 1) [] H fun t29_15 H => run S (.lenS (.c (e8 0))) [] H fun t31_16 H => run S (.call 14 [(.c (.int .i64 2)), (.c t31_16)]) [] H fun t32_17 H => run S
  (.call 15 [(.c t32_17), (.c t21_10)]) [] H fun t34_18 H => run S (.call 34 [(.c t34_18), (.c t28_14)]) [] H fun t36_19 H => run S (.call 16 [(.c t36_19)]) [] H fun
  t37_20 H => R (tup [t37_20, t29_15]) H) (fn [(.t 2), (.t 3)] R)) fun Q7 => cnd t17_6 (fun Q21 => Q21 .ret (upd (upd (upd (upd (upd (upd (upd (upd (upd (upd (upd (upd
  (upd (upd (upd (Env.get [a0]) 2 (.string (bs []))) 3 (.bool false)) 10 a0) 11 t11_1) 12 t12_2) 13 t13_3) 9 t13_3) 14 t14_4) 15 t15_5) 4 t14_4) 5 t15_5) 16 t15_5) 17
  t17_6) 2 (.string (bs []))) 3 (.bool false)) H) (fun Q22 => Q22 .normal (upd (upd (upd (upd (upd (upd (upd (upd (upd (upd (upd (upd (upd (Env.get [a0]) 2 (.string (bs
  []))) 3 (.bool false)) 10 a0) 11 t11_1) 12 t12_2) 13 t13_3) 9 t13_3) 14 t14_4) 15 t15_5) 4 t14_4) 5 t15_5) 16 t15_5) 17 t17_6) H) Q7
theorem h17 (S : Sys) (a0 : Value) (H : Heap) (R : Kv) : wpC S k17.body (Env.get [a0]) H (fn [(.t 2), (.t 3)] R) = s17 S a0 H R := by kernel_rfl
theorem w17 {S : Sys} (hR : S.R 17 = none) (hF : S.F 17 = some k17) (a0 : Value) {H : Heap} {R : Kv} (h : s17 S a0 H R) : Wf S 17 [a0] H R := Wf_sh hR hF ((h17 S a0 H
  R).mpr h)
def b18_1 : KCode := (.seq (.seq (.reg [(.op (some 7) none (.mv (.t 4))), (.op (some 8) none (.mv (.t 0))), (.op (some 9) none (.lenS (.t 8))), (.op (some 10) none (.bin
  .lss (.t 7) (.t 9))), (.op (some 11) none (.mv (.t 10))), (.op (some 12) (some (11, true)) (.mv (.t 0))), (.op (some 13) (some (11, true)) (.mv (.t 4))), (.op (some
  14) (some (11, true)) (.idS (.t 12) (.t 13))), (.op (some 15) (some (11, true)) (.bin .geq (.t 14) (.c (.int .u8 128)))), (.op (some 16) none (.pick (.t 11) (.t 15)
  (.c (.bool false))))]) (.cond (.t 16) .skip (.exit 0))) (.block 1 (.reg [(.op (some 17) none (.mv (.t 4))), (.op (some 18) none (.bin .add (.t 17) (.c (.int .i64
  1)))), (.op (some 4) none (.mv (.t 18)))])))
def s18_1 (S : Sys) (e : Fe) (H : Heap) (Q : Kx) : Prop := run S (.lenS (.c (e 0))) [] H fun t9_44 H => run S (.bin .lss (.c (e 4)) (.c t9_44)) [] H fun t10_45 H => gd
  t10_45 true (run S (.mv (.c (e 0))) [] H) H fun t12_46 H => gd t10_45 true (run S (.mv (.c (e 4))) [] H) H fun t13_47 H => gd t10_45 true (run S (.idS (.c t12_46) (.c
  t13_47)) [] H) H fun t14_48 H => gd t10_45 true (run S (.bin .geq (.c t14_48) (.c (.int .u8 128))) [] H) H fun t15_49 H => run S (.pick (.c t10_45) (.c t15_49) (.c
  (.bool false))) [] H fun t16_50 H => jn (sq (fun e52 H => run S (.bin .add (.c (e52 4)) (.c (.int .i64 1))) [] H fun t18_53 H => Q .normal (upd (upd (upd e52 17 (e52
  4)) 18 t18_53) 4 t18_53) H) Q) fun Q51 => cnd t16_50 (fun Q54 => Q54 .normal (upd (upd (upd (upd (upd (upd (upd (upd (upd (upd e 7 (e 4)) 8 (e 0)) 9 t9_44) 10 t10_45)
  11 t10_45) 12 t12_46) 13 t13_47) 14 t14_48) 15 t15_49) 16 t16_50) H) (fun Q55 => Q55 (.exit 0) (upd (upd (upd (upd (upd (upd (upd (upd (upd (upd e 7 (e 4)) 8 (e 0)) 9
  t9_44) 10 t10_45) 11 t10_45) 12 t12_46) 13 t13_47) 14 t14_48) 15 t15_49) 16 t16_50) H) Q51
theorem h18_1 (S : Sys) (e : Fe) (H : Heap) (Q : Kx) : wpC S b18_1 e H Q = s18_1 S e H Q := by kernel_rfl
theorem l18_1 (S : Sys) {Q : Kx} (I : Nat → Fe → Heap → Prop) (d : Nat) {e0 : Fe} {H : Heap} (h0 : I d e0 H) (hr : ∀ (d : Nat) (e : Fe) (H : Heap), I d e H → s18_1 S e H
  (sq (fun e' H' => ∃ d', d' < d ∧ I d' e' H') Q)) : WL S b18_1 e0 H Q := WL_inv I d h0 fun d e H hi => (h18_1 S e H _).mpr (hr d e H hi)
theorem u18_1 (S : Sys) {Q : Kx} {e : Fe} {H : Heap} (h : s18_1 S e H (sq (fun e' H' => WL S b18_1 e' H' Q) Q)) : WL S b18_1 e H Q := WL_once ((h18_1 S e H _).mpr h)
def b18_0 : KCode := (.seq (.seq (.reg [(.op (some 28) none (.mv (.t 6))), (.op (some 29) none (.bin .geq (.t 28) (.c (.int .i64 0))))]) (.cond (.t 29) .skip (.exit 2)))
  (.seq (.block 3 (.seq (.seq (.reg [(.op (some 32) none (.mv (.t 5))), (.op (some 33) none (.bin .gtr (.t 32) (.c (.int .u64 144115188075855871))))]) (.cond (.t 33)
  (.seq (.reg [(.op (some 2) none (.mv (.c (.int .u64 0)))), (.op (some 3) none (.mv (.c (.int .i64 0))))]) .ret) .skip)) (.reg [(.op (some 34) none (.mv (.t 5))), (.op
  (some 35) none (.bin .mul (.t 34) (.c (.int .u64 128)))), (.op (some 36) none (.mv (.t 0))), (.op (some 37) none (.mv (.t 6))), (.op (some 38) none (.idS (.t 36) (.t
  37))), (.op (some 39) none (.bin .rem (.t 38) (.c (.int .u8 128)))), (.op (some 40) none (.cvt .u64 (.t 39))), (.op (some 41) none (.bin .add (.t 35) (.t 40))), (.op
  (some 5) none (.mv (.t 41)))]))) (.reg [(.op (some 30) none (.mv (.t 6))), (.op (some 31) none (.bin .sub (.t 30) (.c (.int .i64 1)))), (.op (some 6) none (.mv (.t
  31)))])))
def s18_0 (S : Sys) (e : Fe) (H : Heap) (Q : Kx) : Prop := run S (.bin .geq (.c (e 6)) (.c (.int .i64 0))) [] H fun t29_25 H => jn (sq (fun e27 H => jn (sq (fun e29 H =>
  run S (.bin .sub (.c (e29 6)) (.c (.int .i64 1))) [] H fun t31_30 H => Q .normal (upd (upd (upd e29 30 (e29 6)) 31 t31_30) 6 t31_30) H) Q) fun Q28 => run S (.bin .gtr
  (.c (e27 5)) (.c (.int .u64 144115188075855871))) [] H fun t33_31 H => jn (blk 3 Q28) fun Q32 => jn (sq (fun e34 H => run S (.bin .mul (.c (e34 5)) (.c (.int .u64
  128))) [] H fun t35_35 H => run S (.idS (.c (e34 0)) (.c (e34 6))) [] H fun t38_36 H => run S (.bin .rem (.c t38_36) (.c (.int .u8 128))) [] H fun t39_37 H => run S
  (.cvt .u64 (.c t39_37)) [] H fun t40_38 H => run S (.bin .add (.c t35_35) (.c t40_38)) [] H fun t41_39 H => Q32 .normal (upd (upd (upd (upd (upd (upd (upd (upd (upd
  e34 34 (e34 5)) 35 t35_35) 36 (e34 0)) 37 (e34 6)) 38 t38_36) 39 t39_37) 40 t40_38) 41 t41_39) 5 t41_39) H) Q32) fun Q33 => cnd t33_31 (fun Q40 => Q40 .ret (upd (upd
  (upd (upd e27 32 (e27 5)) 33 t33_31) 2 (.int .u64 0)) 3 (.int .i64 0)) H) (fun Q41 => Q41 .normal (upd (upd e27 32 (e27 5)) 33 t33_31) H) Q33) Q) fun Q26 => cnd t29_25
  (fun Q42 => Q42 .normal (upd (upd e 28 (e 6)) 29 t29_25) H) (fun Q43 => Q43 (.exit 2) (upd (upd e 28 (e 6)) 29 t29_25) H) Q26
theorem h18_0 (S : Sys) (e : Fe) (H : Heap) (Q : Kx) : wpC S b18_0 e H Q = s18_0 S e H Q := by kernel_rfl
theorem l18_0 (S : Sys) {Q : Kx} (I : Nat → Fe → Heap → Prop) (d : Nat) {e0 : Fe} {H : Heap} (h0 : I d e0 H) (hr : ∀ (d : Nat) (e : Fe) (H : Heap), I d e H → s18_0 S e H
  (sq (fun e' H' => ∃ d', d' < d ∧ I d' e' H') Q)) : WL S b18_0 e0 H Q := WL_inv I d h0 fun d e H hi => (h18_0 S e H _).mpr (hr d e H hi)
theorem u18_0 (S : Sys) {Q : Kx} {e : Fe} {H : Heap} (h : s18_0 S e H (sq (fun e' H' => WL S b18_0 e' H' Q) Q)) : WL S b18_0 e H Q := WL_once ((h18_0 S e H _).mpr h)
def s18 (S : Sys) (a0 : Value) (H : Heap) (R : Kv) : Prop := jn (sq (fun e2 H => run S (.lenS (.c (e2 0))) [] H fun t21_3 H => run S (.bin .eql (.c (e2 4)) (.c t21_3))
  [] H fun t22_4 H => gd t22_4 false (run S (.mv (.c (e2 4))) [] H) H fun t24_5 H => gd t22_4 false (run S (.bin .gtr (.c t24_5) (.c (.int .i64 9))) [] H) H fun t25_6 H
  => run S (.pick (.c t22_4) (.c (.bool true)) (.c t25_6)) [] H fun t26_7 H => jn (sq (fun e9 H => jn (sq (fun e11 H => run S (.bin .add (.c (e11 4)) (.c (.int .i64 1)))
  [] H fun t46_12 H => run S (.slS (.c (e11 0)) none (some (.c t46_12))) [] H fun t47_13 H => run S (.call 27 [(.c (e11 5))]) [] H fun t43_14 H => run S (.bin .neq (.c
  t43_14) (.c t47_13)) [] H fun t48_15 H => jn (sq (fun e17 H => run S (.bin .add (.c (e17 4)) (.c (.int .i64 1))) [] H fun t51_18 H => R (tup [(e17 5), t51_18]) H) (fn
  [(.t 2), (.t 3)] R)) fun Q16 => cnd t48_15 (fun Q19 => Q19 .ret (upd (upd (upd (upd (upd (upd (upd (upd (upd e11 42 (e11 5)) 44 (e11 0)) 45 (e11 4)) 46 t46_12) 47
  t47_13) 43 t43_14) 48 t48_15) 2 (.int .u64 0)) 3 (.int .i64 0)) H) (fun Q20 => Q20 .normal (upd (upd (upd (upd (upd (upd (upd e11 42 (e11 5)) 44 (e11 0)) 45 (e11 4))
  46 t46_12) 47 t47_13) 43 t43_14) 48 t48_15) H) Q16) (fn [(.t 2), (.t 3)] R)) fun Q10 => jn (blk 2 Q10) fun Q21 => WL S b18_0 (upd (upd (upd e9 5 (.int .u64 0)) 27 (e9
  4)) 6 (e9 4)) H Q21) (fn [(.t 2), (.t 3)] R)) fun Q8 => cnd t26_7 (fun Q22 => Q22 .ret (upd (upd (upd (upd (upd (upd (upd (upd (upd (upd e2 19 (e2 4)) 20 (e2 0)) 21
  t21_3) 22 t22_4) 23 t22_4) 24 t24_5) 25 t25_6) 26 t26_7) 2 (.int .u64 0)) 3 (.int .i64 0)) H) (fun Q23 => Q23 .normal (upd (upd (upd (upd (upd (upd (upd (upd e2 19 (e2
  4)) 20 (e2 0)) 21 t21_3) 22 t22_4) 23 t22_4) 24 t24_5) 25 t25_6) 26 t26_7) H) Q8) (fn [(.t 2), (.t 3)] R)) fun Q1 => jn (blk 0 Q1) fun Q24 => WL S b18_1 (upd (upd (upd
  (Env.get [a0]) 2 (.int .u64 0)) 3 (.int .i64 0)) 4 (.int .i64 0)) H Q24
theorem h18 (S : Sys) (a0 : Value) (H : Heap) (R : Kv) : wpC S k18.body (Env.get [a0]) H (fn [(.t 2), (.t 3)] R) = s18 S a0 H R := by kernel_rfl
theorem w18 {S : Sys} (hR : S.R 18 = none) (hF : S.F 18 = some k18) (a0 : Value) {H : Heap} {R : Kv} (h : s18 S a0 H R) : Wf S 18 [a0] H R := Wf_sh hR hF ((h18 S a0 H
  R).mpr h)
def b19_0 : KCode := (.seq (.seq (.reg [(.op (some 23) none (.mv (.t 7))), (.op (some 24) none (.mv (.t 4))), (.op (some 25) none (.bin .lss (.t 23) (.t 24)))]) (.cond
  (.t 25) .skip (.exit 0))) (.seq (.block 1 (.seq (.reg [(.op (some 28) none (.mv (.t 0))), (.op (some 29) none (.mv (.t 7))), (.op (some 30) none (.bin .quo (.t 29) (.c
  (.int .i64 2)))), (.op (some 31) none (.bin .add (.c (.int .i64 1)) (.t 30))), (.op (some 32) none (.idS (.t 28) (.t 31))), (.op (some 33) none (.cvt .i64 (.t 32))),
  (.op (some 8) none (.mv (.t 33)))]) (.seq (.seq (.reg [(.op (some 34) none (.mv (.t 7))), (.op (some 35) none (.bin .rem (.t 34) (.c (.int .i64 2)))), (.op (some 36)
  none (.bin .eql (.t 35) (.c (.int .i64 1))))]) (.cond (.t 36) (.reg [(.op (some 37) none (.mv (.t 8))), (.op (some 38) none (.bin .quo (.t 37) (.c (.int .i64 16)))),
  (.op (some 8) none (.mv (.t 38)))]) .skip)) (.reg [(.op (some 39) none (.mv (.t 6))), (.op (some 40) none (.mv (.t 8))), (.op (some 41) none (.bin .rem (.t 40) (.c
  (.int .i64 16)))), (.op (some 42) none (.bsl 3 1 [(.int .i64 0)] [(0, (1, (.t 41)))])), (.op (some 43) none (.app 3 1 8 (.t 39) (.t 42))), (.op (some 6) none (.mv (.t
  43)))])))) (.reg [(.op (some 26) none (.mv (.t 7))), (.op (some 27) none (.bin .add (.t 26) (.c (.int .i64 1)))), (.op (some 7) none (.mv (.t 27)))])))
def s19_0 (S : Sys) (e : Fe) (H : Heap) (Q : Kx) : Prop := run S (.bin .lss (.c (e 7)) (.c (e 4))) [] H fun t25_34 H => jn (sq (fun e36 H => jn (sq (fun e38 H => run S
  (.bin .add (.c (e38 7)) (.c (.int .i64 1))) [] H fun t27_39 H => Q .normal (upd (upd (upd e38 26 (e38 7)) 27 t27_39) 7 t27_39) H) Q) fun Q37 => run S (.bin .quo (.c
  (e36 7)) (.c (.int .i64 2))) [] H fun t30_40 H => run S (.bin .add (.c (.int .i64 1)) (.c t30_40)) [] H fun t31_41 H => run S (.idS (.c (e36 0)) (.c t31_41)) [] H fun
  t32_42 H => run S (.cvt .i64 (.c t32_42)) [] H fun t33_43 H => run S (.bin .rem (.c (e36 7)) (.c (.int .i64 2))) [] H fun t35_44 H => run S (.bin .eql (.c t35_44) (.c
  (.int .i64 1))) [] H fun t36_45 H => jn (blk 1 Q37) fun Q46 => jn (sq (fun e48 H => run S (.bin .rem (.c (e48 8)) (.c (.int .i64 16))) [] H fun t41_49 H => run S (.bsl
  3 1 [(.int .i64 0)] [(0, (1, (.c t41_49)))]) [] H fun t42_50 H => run S (.app 3 1 8 (.c (e48 6)) (.c t42_50)) [] H fun t43_51 H => Q46 .normal (upd (upd (upd (upd (upd
  (upd e48 39 (e48 6)) 40 (e48 8)) 41 t41_49) 42 t42_50) 43 t43_51) 6 t43_51) H) Q46) fun Q47 => cnd t36_45 (fun Q52 => run S (.bin .quo (.c t33_43) (.c (.int .i64 16)))
  [] H fun t38_54 H => Q52 .normal (upd (upd (upd (upd (upd (upd (upd (upd (upd (upd (upd (upd (upd e36 28 (e36 0)) 29 (e36 7)) 30 t30_40) 31 t31_41) 32 t32_42) 33
  t33_43) 8 t33_43) 34 (e36 7)) 35 t35_44) 36 t36_45) 37 t33_43) 38 t38_54) 8 t38_54) H) (fun Q53 => Q53 .normal (upd (upd (upd (upd (upd (upd (upd (upd (upd (upd e36 28
  (e36 0)) 29 (e36 7)) 30 t30_40) 31 t31_41) 32 t32_42) 33 t33_43) 8 t33_43) 34 (e36 7)) 35 t35_44) 36 t36_45) H) Q47) Q) fun Q35 => cnd t25_34 (fun Q55 => Q55 .normal
  (upd (upd (upd e 23 (e 7)) 24 (e 4)) 25 t25_34) H) (fun Q56 => Q56 (.exit 0) (upd (upd (upd e 23 (e 7)) 24 (e 4)) 25 t25_34) H) Q35
theorem h19_0 (S : Sys) (e : Fe) (H : Heap) (Q : Kx) : wpC S b19_0 e H Q = s19_0 S e H Q := by kernel_rfl
theorem l19_0 (S : Sys) {Q : Kx} (I : Nat → Fe → Heap → Prop) (d : Nat) {e0 : Fe} {H : Heap} (h0 : I d e0 H) (hr : ∀ (d : Nat) (e : Fe) (H : Heap), I d e H → s19_0 S e H
  (sq (fun e' H' => ∃ d', d' < d ∧ I d' e' H') Q)) : WL S b19_0 e0 H Q := WL_inv I d h0 fun d e H hi => (h19_0 S e H _).mpr (hr d e H hi)
theorem u19_0 (S : Sys) {Q : Kx} {e : Fe} {H : Heap} (h : s19_0 S e H (sq (fun e' H' => WL S b19_0 e' H' Q) Q)) : WL S b19_0 e H Q := WL_once ((h19_0 S e H _).mpr h)
def s19 (S : Sys) (a0 : Value) (H : Heap) (R : Kv) : Prop := run S (.bin .eql (.c a0) (.c (.string (bs [])))) [] H fun t10_1 H => jn (sq (fun e3 H => run S (.idS (.c (e3
  0)) (.c (.int .i64 0))) [] H fun t12_4 H => run S (.cvt .i64 (.c t12_4)) [] H fun t13_5 H => run S (.bin .add (.c t13_5) (.c (.int .i64 1))) [] H fun t14_6 H => run S
  (.bin .add (.c t14_6) (.c (.int .i64 1))) [] H fun t16_7 H => run S (.bin .quo (.c t16_7) (.c (.int .i64 2))) [] H fun t17_8 H => run S (.bin .add (.c (.int .i64 1))
  (.c t17_8)) [] H fun t18_9 H => run S (.lenS (.c (e3 0))) [] H fun t21_10 H => run S (.bin .gtr (.c t18_9) (.c t21_10)) [] H fun t22_11 H => jn (sq (fun e13 H => jn
  (sq (fun e15 H => run S (.call 35 [(.c (e15 6))]) [] H fun t45_16 H => run S (.un .not (.c t45_16)) [] H fun t46_17 H => gd t46_17 false (run S (.mv (.c (e15 6))) []
  H) H fun t48_18 H => gd t46_17 false (run S (.mv (.c (e15 0))) [] H) H fun t50_19 H => gd t46_17 false (run S (.mv (.c (e15 5))) [] H) H fun t51_20 H => gd t46_17
  false (run S (.slS (.c t50_19) none (some (.c t51_20))) [] H) H fun t52_21 H => gd t46_17 false (run S (.call 36 [(.c t48_18)]) [] H) H fun t49_22 H => gd t46_17 false
  (run S (.bin .neq (.c t49_22) (.c t52_21)) [] H) H fun t53_23 H => run S (.pick (.c t46_17) (.c (.bool true)) (.c t53_23)) [] H fun t54_24 H => jn (sq (fun e26 H => R
  (tup [(e26 6), (e26 5)]) H) (fn [(.t 2), (.t 3)] R)) fun Q25 => cnd t54_24 (fun Q27 => Q27 .ret (upd (upd (upd (upd (upd (upd (upd (upd (upd (upd (upd (upd (upd e15 44
  (e15 6)) 45 t45_16) 46 t46_17) 47 t46_17) 48 t48_18) 50 t50_19) 51 t51_20) 52 t52_21) 49 t49_22) 53 t53_23) 54 t54_24) 2 (.slice none 0 0)) 3 (.int .i64 0)) H) (fun
  Q28 => Q28 .normal (upd (upd (upd (upd (upd (upd (upd (upd (upd (upd (upd e15 44 (e15 6)) 45 t45_16) 46 t46_17) 47 t46_17) 48 t48_18) 50 t50_19) 51 t51_20) 52 t52_21)
  49 t49_22) 53 t53_23) 54 t54_24) H) Q25) (fn [(.t 2), (.t 3)] R)) fun Q14 => jn (blk 0 Q14) fun Q29 => WL S b19_0 (upd (upd e13 6 (.slice none 0 0)) 7 (.int .i64 0)) H
  Q29) (fn [(.t 2), (.t 3)] R)) fun Q12 => cnd t22_11 (fun Q30 => Q30 .ret (upd (upd (upd (upd (upd (upd (upd (upd (upd (upd (upd (upd (upd (upd (upd (upd e3 11 (e3 0))
  12 t12_4) 13 t13_5) 14 t14_6) 4 t14_6) 15 t14_6) 16 t16_7) 17 t17_8) 18 t18_9) 5 t18_9) 19 t18_9) 20 (e3 0)) 21 t21_10) 22 t22_11) 2 (.slice none 0 0)) 3 (.int .i64
  0)) H) (fun Q31 => Q31 .normal (upd (upd (upd (upd (upd (upd (upd (upd (upd (upd (upd (upd (upd (upd e3 11 (e3 0)) 12 t12_4) 13 t13_5) 14 t14_6) 4 t14_6) 15 t14_6) 16
  t16_7) 17 t17_8) 18 t18_9) 5 t18_9) 19 t18_9) 20 (e3 0)) 21 t21_10) 22 t22_11) H) Q12) (fn [(.t 2), (.t 3)] R)) fun Q2 => cnd t10_1 (fun Q32 => Q32 .ret (upd (upd (upd
  (upd (upd (upd (Env.get [a0]) 2 (.slice none 0 0)) 3 (.int .i64 0)) 9 a0) 10 t10_1) 2 (.slice none 0 0)) 3 (.int .i64 0)) H) (fun Q33 => Q33 .normal (upd (upd (upd
  (upd (Env.get [a0]) 2 (.slice none 0 0)) 3 (.int .i64 0)) 9 a0) 10 t10_1) H) Q2
theorem h19 (S : Sys) (a0 : Value) (H : Heap) (R : Kv) : wpC S k19.body (Env.get [a0]) H (fn [(.t 2), (.t 3)] R) = s19 S a0 H R := by kernel_rfl
theorem w19 {S : Sys} (hR : S.R 19 = none) (hF : S.F 19 = some k19) (a0 : Value) {H : Heap} {R : Kv} (h : s19 S a0 H R) : Wf S 19 [a0] H R := Wf_sh hR hF ((h19 S a0 H
  R).mpr h)
def b20_3 : KCode := (.seq (.seq (.reg [(.op (some 40) none (.mv (.t 14))), (.op (some 41) none (.mv (.t 0))), (.op (some 42) none (.lenL (.t 41))), (.op (some 43) none
  (.bin .lss (.t 40) (.t 42)))]) (.cond (.t 43) .skip (.exit 4))) (.seq (.block 5 (.seq (.reg [(.op (some 46) none (.mv (.t 0))), (.op (some 47) none (.mv (.t 14))),
  (.op (some 48) none (.iad 1 (.t 46) (.t 47))), (.op (some 49) none (.ld (.t 48))), (.op (some 50) none (.bin .gtr (.t 49) (.c (.int .i64 0)))), (.op (some 51) none
  (.mv (.t 50))), (.op (some 52) (some (51, true)) (.mv (.t 10))), (.op (some 53) (some (51, true)) (.mv (.t 14))), (.op (some 54) (some (51, true)) (.iada 256 1 (.t 8)
  (.t 53))), (.op (some 55) (some (51, true)) (.ld (.t 54))), (.op (some 56) (some (51, true)) (.call 39 [(.t 52), (.t 55)])), (.op (some 57) none (.pick (.t 51) (.t 56)
  (.c (.bool false))))]) (.cond (.t 57) (.reg [(.op (some 58) none (.mv (.t 14))), (.op (some 13) none (.mv (.t 58)))]) .skip))) (.reg [(.op (some 44) none (.mv (.t
  14))), (.op (some 45) none (.bin .add (.t 44) (.c (.int .i64 1)))), (.op (some 14) none (.mv (.t 45)))])))
def s20_3 (S : Sys) (e : Fe) (H : Heap) (Q : Kx) : Prop := run S (.lenL (.c (e 0))) [] H fun t42_71 H => run S (.bin .lss (.c (e 14)) (.c t42_71)) [] H fun t43_72 H =>
  jn (sq (fun e74 H => jn (sq (fun e76 H => run S (.bin .add (.c (e76 14)) (.c (.int .i64 1))) [] H fun t45_77 H => Q .normal (upd (upd (upd e76 44 (e76 14)) 45 t45_77)
  14 t45_77) H) Q) fun Q75 => run S (.iad 1 (.c (e74 0)) (.c (e74 14))) [] H fun t48_78 H => run S (.ld (.c t48_78)) [] H fun t49_79 H => run S (.bin .gtr (.c t49_79)
  (.c (.int .i64 0))) [] H fun t50_80 H => gd t50_80 true (run S (.mv (.c (e74 10))) [] H) H fun t52_81 H => gd t50_80 true (run S (.mv (.c (e74 14))) [] H) H fun t53_82
  H => gd t50_80 true (run S (.iada 256 1 (.c (e74 8)) (.c t53_82)) [] H) H fun t54_83 H => gd t50_80 true (run S (.ld (.c t54_83)) [] H) H fun t55_84 H => gd t50_80
  true (run S (.call 39 [(.c t52_81), (.c t55_84)]) [] H) H fun t56_85 H => run S (.pick (.c t50_80) (.c t56_85) (.c (.bool false))) [] H fun t57_86 H => jn (blk 5 Q75)
  fun Q87 => cnd t57_86 (fun Q88 => Q88 .normal (upd (upd (upd (upd (upd (upd (upd (upd (upd (upd (upd (upd (upd (upd e74 46 (e74 0)) 47 (e74 14)) 48 t48_78) 49 t49_79)
  50 t50_80) 51 t50_80) 52 t52_81) 53 t53_82) 54 t54_83) 55 t55_84) 56 t56_85) 57 t57_86) 58 (e74 14)) 13 (e74 14)) H) (fun Q89 => Q89 .normal (upd (upd (upd (upd (upd
  (upd (upd (upd (upd (upd (upd (upd e74 46 (e74 0)) 47 (e74 14)) 48 t48_78) 49 t49_79) 50 t50_80) 51 t50_80) 52 t52_81) 53 t53_82) 54 t54_83) 55 t55_84) 56 t56_85) 57
  t57_86) H) Q87) Q) fun Q73 => cnd t43_72 (fun Q90 => Q90 .normal (upd (upd (upd (upd e 40 (e 14)) 41 (e 0)) 42 t42_71) 43 t43_72) H) (fun Q91 => Q91 (.exit 4) (upd
  (upd (upd (upd e 40 (e 14)) 41 (e 0)) 42 t42_71) 43 t43_72) H) Q73
theorem h20_3 (S : Sys) (e : Fe) (H : Heap) (Q : Kx) : wpC S b20_3 e H Q = s20_3 S e H Q := by kernel_rfl
theorem l20_3 (S : Sys) {Q : Kx} (I : Nat → Fe → Heap → Prop) (d : Nat) {e0 : Fe} {H : Heap} (h0 : I d e0 H) (hr : ∀ (d : Nat) (e : Fe) (H : Heap), I d e H → s20_3 S e H
  (sq (fun e' H' => ∃ d', d' < d ∧ I d' e' H') Q)) : WL S b20_3 e0 H Q := WL_inv I d h0 fun d e H hi => (h20_3 S e H _).mpr (hr d e H hi)
theorem u20_3 (S : Sys) {Q : Kx} {e : Fe} {H : Heap} (h : s20_3 S e H (sq (fun e' H' => WL S b20_3 e' H' Q) Q)) : WL S b20_3 e H Q := WL_once ((h20_3 S e H _).mpr h)
def b20_2 : KCode := (.seq (.seq (.reg [(.op (some 16) none (.mv (.t 9))), (.op (some 17) none (.mv (.t 0))), (.op (some 18) none (.lenL (.t 17))), (.op (some 19) none
  (.bin .lss (.t 16) (.t 18)))]) (.cond (.t 19) .skip (.exit 0))) (.seq (.block 1 (.seq (.reg [(.op (some 22) none (.mv (.t 0))), (.op (some 23) none (.mv (.t 9))), (.op
  (some 24) none (.iad 1 (.t 22) (.t 23))), (.op (some 25) none (.ld (.t 24))), (.op (some 26) none (.bin .gtr (.t 25) (.c (.int .i64 0))))]) (.cond (.t 26) (.reg [(.op
  (some 27) none (.mv (.t 9))), (.op (some 28) none (.mv (.t 0))), (.op (some 29) none (.mv (.t 9))), (.op (some 30) none (.call 37 [(.t 28), (.t 29)])), (.op (some 31)
  none (.iada 256 1 (.t 8) (.t 27))), (.op none none (.st (.t 31) (.t 30)))]) .skip))) (.reg [(.op (some 20) none (.mv (.t 9))), (.op (some 21) none (.bin .add (.t 20)
  (.c (.int .i64 1)))), (.op (some 9) none (.mv (.t 21)))])))
def s20_2 (S : Sys) (e : Fe) (H : Heap) (Q : Kx) : Prop := run S (.lenL (.c (e 0))) [] H fun t18_54 H => run S (.bin .lss (.c (e 9)) (.c t18_54)) [] H fun t19_55 H => jn
  (sq (fun e57 H => jn (sq (fun e59 H => run S (.bin .add (.c (e59 9)) (.c (.int .i64 1))) [] H fun t21_60 H => Q .normal (upd (upd (upd e59 20 (e59 9)) 21 t21_60) 9
  t21_60) H) Q) fun Q58 => run S (.iad 1 (.c (e57 0)) (.c (e57 9))) [] H fun t24_61 H => run S (.ld (.c t24_61)) [] H fun t25_62 H => run S (.bin .gtr (.c t25_62) (.c
  (.int .i64 0))) [] H fun t26_63 H => jn (blk 1 Q58) fun Q64 => cnd t26_63 (fun Q65 => run S (.call 37 [(.c (e57 0)), (.c (e57 9))]) [] H fun t30_67 H => run S (.iada
  256 1 (.c (e57 8)) (.c (e57 9))) [] H fun t31_68 H => run S (.st (.c t31_68) (.c t30_67)) [] H fun _ H => Q65 .normal (upd (upd (upd (upd (upd (upd (upd (upd (upd (upd
  e57 22 (e57 0)) 23 (e57 9)) 24 t24_61) 25 t25_62) 26 t26_63) 27 (e57 9)) 28 (e57 0)) 29 (e57 9)) 30 t30_67) 31 t31_68) H) (fun Q66 => Q66 .normal (upd (upd (upd (upd
  (upd e57 22 (e57 0)) 23 (e57 9)) 24 t24_61) 25 t25_62) 26 t26_63) H) Q64) Q) fun Q56 => cnd t19_55 (fun Q69 => Q69 .normal (upd (upd (upd (upd e 16 (e 9)) 17 (e 0)) 18
  t18_54) 19 t19_55) H) (fun Q70 => Q70 (.exit 0) (upd (upd (upd (upd e 16 (e 9)) 17 (e 0)) 18 t18_54) 19 t19_55) H) Q56
theorem h20_2 (S : Sys) (e : Fe) (H : Heap) (Q : Kx) : wpC S b20_2 e H Q = s20_2 S e H Q := by kernel_rfl
theorem l20_2 (S : Sys) {Q : Kx} (I : Nat → Fe → Heap → Prop) (d : Nat) {e0 : Fe} {H : Heap} (h0 : I d e0 H) (hr : ∀ (d : Nat) (e : Fe) (H : Heap), I d e H → s20_2 S e H
  (sq (fun e' H' => ∃ d', d' < d ∧ I d' e' H') Q)) : WL S b20_2 e0 H Q := WL_inv I d h0 fun d e H hi => (h20_2 S e H _).mpr (hr d e H hi)
theorem u20_2 (S : Sys) {Q : Kx} {e : Fe} {H : Heap} (h : s20_2 S e H (sq (fun e' H' => WL S b20_2 e' H' Q) Q)) : WL S b20_2 e H Q := WL_once ((h20_2 S e H _).mpr h)
def b20_1 : KCode := (.seq (.seq (.reg [(.op (some 35) none (.mv (.t 12))), (.op (some 36) none (.mv (.t 2))), (.op (some 37) none (.bin .lss (.t 35) (.t 36)))]) (.cond
  (.t 37) .skip (.exit 2))) (.seq (.block 3 (.seq (.reg [(.op (some 13) none (.mv (.c (.int .i64 (-1)))))]) (.seq (.seq (.reg [(.op (some 14) none (.mv (.c (.int .i64
  0))))]) (.block 4 (.loop (.seq (.seq (.reg [(.op (some 40) none (.mv (.t 14))), (.op (some 41) none (.mv (.t 0))), (.op (some 42) none (.lenL (.t 41))), (.op (some 43)
  none (.bin .lss (.t 40) (.t 42)))]) (.cond (.t 43) .skip (.exit 4))) (.seq (.block 5 (.seq (.reg [(.op (some 46) none (.mv (.t 0))), (.op (some 47) none (.mv (.t
  14))), (.op (some 48) none (.iad 1 (.t 46) (.t 47))), (.op (some 49) none (.ld (.t 48))), (.op (some 50) none (.bin .gtr (.t 49) (.c (.int .i64 0)))), (.op (some 51)
  none (.mv (.t 50))), (.op (some 52) (some (51, true)) (.mv (.t 10))), (.op (some 53) (some (51, true)) (.mv (.t 14))), (.op (some 54) (some (51, true)) (.iada 256 1
  (.t 8) (.t 53))), (.op (some 55) (some (51, true)) (.ld (.t 54))), (.op (some 56) (some (51, true)) (.call 39 [(.t 52), (.t 55)])), (.op (some 57) none (.pick (.t 51)
  (.t 56) (.c (.bool false))))]) (.cond (.t 57) (.reg [(.op (some 58) none (.mv (.t 14))), (.op (some 13) none (.mv (.t 58)))]) .skip))) (.reg [(.op (some 44) none (.mv
  (.t 14))), (.op (some 45) none (.bin .add (.t 44) (.c (.int .i64 1)))), (.op (some 14) none (.mv (.t 45)))])))))) (.seq (.seq (.reg [(.op (some 59) none (.mv (.t
  13))), (.op (some 60) none (.bin .lss (.t 59) (.c (.int .i64 0))))]) (.cond (.t 60) (.seq (.reg [(.op (some 6) none (.mv (.c (.slice none 0 0)))), (.op (some 7) none
  (.mv (.c (.bool false))))]) .ret) .skip)) (.seq (.reg [(.op (some 61) none (.mv (.t 11))), (.op (some 62) none (.mv (.t 13))), (.op (some 63) none (.cvt .u8 (.t 62))),
  (.op (some 64) none (.bsl 5 1 [(.int .u8 0)] [(0, (1, (.t 63)))])), (.op (some 65) none (.app 5 1 1 (.t 61) (.t 64))), (.op (some 11) none (.mv (.t 65)))]) (.reg [(.op
  (some 66) none (.mv (.t 10))), (.op (some 67) none (.mv (.t 0))), (.op (some 68) none (.mv (.t 13))), (.op (some 69) none (.iad 1 (.t 67) (.t 68))), (.op (some 70)
  none (.ld (.t 69))), (.op (some 71) none (.slc 3 1 (.t 66) (some (.t 70)) none)), (.op (some 10) none (.mv (.t 71)))])))))) (.reg [(.op (some 38) none (.mv (.t 12))),
  (.op (some 39) none (.bin .add (.t 38) (.c (.int .i64 1)))), (.op (some 12) none (.mv (.t 39)))])))
def s20_1 (S : Sys) (e : Fe) (H : Heap) (Q : Kx) : Prop := run S (.bin .lss (.c (e 12)) (.c (e 2))) [] H fun t37_31 H => jn (sq (fun e33 H => jn (sq (fun e35 H => run S
  (.bin .add (.c (e35 12)) (.c (.int .i64 1))) [] H fun t39_36 H => Q .normal (upd (upd (upd e35 38 (e35 12)) 39 t39_36) 12 t39_36) H) Q) fun Q34 => jn (blk 3 Q34) fun
  Q37 => jn (sq (fun e39 H => run S (.bin .lss (.c (e39 13)) (.c (.int .i64 0))) [] H fun t60_40 H => jn (sq (fun e42 H => run S (.cvt .u8 (.c (e42 13))) [] H fun t63_43
  H => run S (.bsl 5 1 [(.int .u8 0)] [(0, (1, (.c t63_43)))]) [] H fun t64_44 H => run S (.app 5 1 1 (.c (e42 11)) (.c t64_44)) [] H fun t65_45 H => run S (.iad 1 (.c
  (e42 0)) (.c (e42 13))) [] H fun t69_46 H => run S (.ld (.c t69_46)) [] H fun t70_47 H => run S (.slc 3 1 (.c (e42 10)) (some (.c t70_47)) none) [] H fun t71_48 H =>
  Q37 .normal (upd (upd (upd (upd (upd (upd (upd (upd (upd (upd (upd (upd (upd e42 61 (e42 11)) 62 (e42 13)) 63 t63_43) 64 t64_44) 65 t65_45) 11 t65_45) 66 (e42 10)) 67
  (e42 0)) 68 (e42 13)) 69 t69_46) 70 t70_47) 71 t71_48) 10 t71_48) H) Q37) fun Q41 => cnd t60_40 (fun Q49 => Q49 .ret (upd (upd (upd (upd e39 59 (e39 13)) 60 t60_40) 6
  (.slice none 0 0)) 7 (.bool false)) H) (fun Q50 => Q50 .normal (upd (upd e39 59 (e39 13)) 60 t60_40) H) Q41) Q37) fun Q38 => jn (blk 4 Q38) fun Q51 => WL S b20_3 (upd
  (upd e33 13 (.int .i64 (-1))) 14 (.int .i64 0)) H Q51) Q) fun Q32 => cnd t37_31 (fun Q52 => Q52 .normal (upd (upd (upd e 35 (e 12)) 36 (e 2)) 37 t37_31) H) (fun Q53 =>
  Q53 (.exit 2) (upd (upd (upd e 35 (e 12)) 36 (e 2)) 37 t37_31) H) Q32
theorem h20_1 (S : Sys) (e : Fe) (H : Heap) (Q : Kx) : wpC S b20_1 e H Q = s20_1 S e H Q := by kernel_rfl
theorem l20_1 (S : Sys) {Q : Kx} (I : Nat → Fe → Heap → Prop) (d : Nat) {e0 : Fe} {H : Heap} (h0 : I d e0 H) (hr : ∀ (d : Nat) (e : Fe) (H : Heap), I d e H → s20_1 S e H
  (sq (fun e' H' => ∃ d', d' < d ∧ I d' e' H') Q)) : WL S b20_1 e0 H Q := WL_inv I d h0 fun d e H hi => (h20_1 S e H _).mpr (hr d e H hi)
theorem u20_1 (S : Sys) {Q : Kx} {e : Fe} {H : Heap} (h : s20_1 S e H (sq (fun e' H' => WL S b20_1 e' H' Q) Q)) : WL S b20_1 e H Q := WL_once ((h20_1 S e H _).mpr h)
def b20_0 : KCode := (.seq (.seq (.reg [(.op (some 72) none (.mv (.t 15))), (.op (some 73) none (.mv (.t 10))), (.op (some 74) none (.lenL (.t 73))), (.op (some 75) none
  (.bin .lss (.t 72) (.t 74)))]) (.cond (.t 75) .skip (.exit 6))) (.seq (.block 7 (.seq (.reg [(.op (some 78) none (.mv (.t 10))), (.op (some 79) none (.mv (.t 15))),
  (.op (some 80) none (.iad 1 (.t 78) (.t 79))), (.op (some 81) none (.ld (.t 80))), (.op (some 82) none (.bin .neq (.t 81) (.c (.int .i64 0)))), (.op (some 83) none
  (.mv (.t 82))), (.op (some 84) (some (83, false)) (.mv (.t 15))), (.op (some 85) (some (83, false)) (.bin .geq (.t 84) (.c (.int .i64 7)))), (.op (some 86) none (.pick
  (.t 83) (.c (.bool true)) (.t 85)))]) (.cond (.t 86) (.seq (.reg [(.op (some 6) none (.mv (.c (.slice none 0 0)))), (.op (some 7) none (.mv (.c (.bool false))))])
  .ret) .skip))) (.reg [(.op (some 76) none (.mv (.t 15))), (.op (some 77) none (.bin .add (.t 76) (.c (.int .i64 1)))), (.op (some 15) none (.mv (.t 77)))])))
def s20_0 (S : Sys) (e : Fe) (H : Heap) (Q : Kx) : Prop := run S (.lenL (.c (e 10))) [] H fun t74_13 H => run S (.bin .lss (.c (e 15)) (.c t74_13)) [] H fun t75_14 H =>
  jn (sq (fun e16 H => jn (sq (fun e18 H => run S (.bin .add (.c (e18 15)) (.c (.int .i64 1))) [] H fun t77_19 H => Q .normal (upd (upd (upd e18 76 (e18 15)) 77 t77_19)
  15 t77_19) H) Q) fun Q17 => run S (.iad 1 (.c (e16 10)) (.c (e16 15))) [] H fun t80_20 H => run S (.ld (.c t80_20)) [] H fun t81_21 H => run S (.bin .neq (.c t81_21)
  (.c (.int .i64 0))) [] H fun t82_22 H => gd t82_22 false (run S (.mv (.c (e16 15))) [] H) H fun t84_23 H => gd t82_22 false (run S (.bin .geq (.c t84_23) (.c (.int
  .i64 7))) [] H) H fun t85_24 H => run S (.pick (.c t82_22) (.c (.bool true)) (.c t85_24)) [] H fun t86_25 H => jn (blk 7 Q17) fun Q26 => cnd t86_25 (fun Q27 => Q27
  .ret (upd (upd (upd (upd (upd (upd (upd (upd (upd (upd (upd e16 78 (e16 10)) 79 (e16 15)) 80 t80_20) 81 t81_21) 82 t82_22) 83 t82_22) 84 t84_23) 85 t85_24) 86 t86_25)
  6 (.slice none 0 0)) 7 (.bool false)) H) (fun Q28 => Q28 .normal (upd (upd (upd (upd (upd (upd (upd (upd (upd e16 78 (e16 10)) 79 (e16 15)) 80 t80_20) 81 t81_21) 82
  t82_22) 83 t82_22) 84 t84_23) 85 t85_24) 86 t86_25) H) Q26) Q) fun Q15 => cnd t75_14 (fun Q29 => Q29 .normal (upd (upd (upd (upd e 72 (e 15)) 73 (e 10)) 74 t74_13) 75
  t75_14) H) (fun Q30 => Q30 (.exit 6) (upd (upd (upd (upd e 72 (e 15)) 73 (e 10)) 74 t74_13) 75 t75_14) H) Q15
theorem h20_0 (S : Sys) (e : Fe) (H : Heap) (Q : Kx) : wpC S b20_0 e H Q = s20_0 S e H Q := by kernel_rfl
theorem l20_0 (S : Sys) {Q : Kx} (I : Nat → Fe → Heap → Prop) (d : Nat) {e0 : Fe} {H : Heap} (h0 : I d e0 H) (hr : ∀ (d : Nat) (e : Fe) (H : Heap), I d e H → s20_0 S e H
  (sq (fun e' H' => ∃ d', d' < d ∧ I d' e' H') Q)) : WL S b20_0 e0 H Q := WL_inv I d h0 fun d e H hi => (h20_0 S e H _).mpr (hr d e H hi)
theorem u20_0 (S : Sys) {Q : Kx} {e : Fe} {H : Heap} (h : s20_0 S e H (sq (fun e' H' => WL S b20_0 e' H' Q) Q)) : WL S b20_0 e H Q := WL_once ((h20_0 S e H _).mpr h)
def s20 (S : Sys) (a0 a1 a2 : Value) (H : Heap) (R : Kv) : Prop := run S (.alloc 65 [(.slice none 0 0), (.slice none 0 0), (.slice none 0 0), (.slice none 0 0), (.slice
  none 0 0), (.slice none 0 0), (.slice none 0 0), (.slice none 0 0), (.slice none 0 0), (.slice none 0 0), (.slice none 0 0), (.slice none 0 0), (.slice none 0 0),
  (.slice none 0 0), (.slice none 0 0), (.slice none 0 0), (.slice none 0 0), (.slice none 0 0), (.slice none 0 0), (.slice none 0 0), (.slice none 0 0), (.slice none 0
  0), (.slice none 0 0), (.slice none 0 0), (.slice none 0 0), (.slice none 0 0), (.slice none 0 0), (.slice none 0 0), (.slice none 0 0), (.slice none 0 0), (.slice
  none 0 0), (.slice none 0 0), (.slice none 0 0), (.slice none 0 0), (.slice none 0 0), (.slice none 0 0), (.slice none 0 0), (.slice none 0 0), (.slice none 0 0),
  (.slice none 0 0), (.slice none 0 0), (.slice none 0 0), (.slice none 0 0), (.slice none 0 0), (.slice none 0 0), (.slice none 0 0), (.slice none 0 0), (.slice none 0
  0), (.slice none 0 0), (.slice none 0 0), (.slice none 0 0), (.slice none 0 0), (.slice none 0 0), (.slice none 0 0), (.slice none 0 0), (.slice none 0 0), (.slice
  none 0 0), (.slice none 0 0), (.slice none 0 0), (.slice none 0 0), (.slice none 0 0), (.slice none 0 0), (.slice none 0 0), (.slice none 0 0), (.slice none 0 0),
  (.slice none 0 0), (.slice none 0 0), (.slice none 0 0), (.slice none 0 0), (.slice none 0 0), (.slice none 0 0), (.slice none 0 0), (.slice none 0 0), (.slice none 0
  0), (.slice none 0 0), (.slice none 0 0), (.slice none 0 0), (.slice none 0 0), (.slice none 0 0), (.slice none 0 0), (.slice none 0 0), (.slice none 0 0), (.slice
  none 0 0), (.slice none 0 0), (.slice none 0 0), (.slice none 0 0), (.slice none 0 0), (.slice none 0 0), (.slice none 0 0), (.slice none 0 0), (.slice none 0 0),
  (.slice none 0 0), (.slice none 0 0), (.slice none 0 0), (.slice none 0 0), (.slice none 0 0), (.slice none 0 0), (.slice none 0 0), (.slice none 0 0), (.slice none 0
  0), (.slice none 0 0), (.slice none 0 0), (.slice none 0 0), (.slice none 0 0), (.slice none 0 0), (.slice none 0 0), (.slice none 0 0), (.slice none 0 0), (.slice
  none 0 0), (.slice none 0 0), (.slice none 0 0), (.slice none 0 0), (.slice none 0 0), (.slice none 0 0), (.slice none 0 0), (.slice none 0 0), (.slice none 0 0),
  (.slice none 0 0), (.slice none 0 0), (.slice none 0 0), (.slice none 0 0), (.slice none 0 0), (.slice none 0 0), (.slice none 0 0), (.slice none 0 0), (.slice none 0
  0), (.slice none 0 0), (.slice none 0 0), (.slice none 0 0), (.slice none 0 0), (.slice none 0 0), (.slice none 0 0), (.slice none 0 0), (.slice none 0 0), (.slice
  none 0 0), (.slice none 0 0), (.slice none 0 0), (.slice none 0 0), (.slice none 0 0), (.slice none 0 0), (.slice none 0 0), (.slice none 0 0), (.slice none 0 0),
  (.slice none 0 0), (.slice none 0 0), (.slice none 0 0), (.slice none 0 0), (.slice none 0 0), (.slice none 0 0), (.slice none 0 0), (.slice none 0 0), (.slice none 0
  0), (.slice none 0 0), (.slice none 0 0), (.slice none 0 0), (.slice none 0 0), (.slice none 0 0), (.slice none 0 0), (.slice none 0 0), (.slice none 0 0), (.slice
  none 0 0), (.slice none 0 0), (.slice none 0 0), (.slice none 0 0), (.slice none 0 0), (.slice none 0 0), (.slice none 0 0), (.slice none 0 0), (.slice none 0 0),
  (.slice none 0 0), (.slice none 0 0), (.slice none 0 0), (.slice none 0 0), (.slice none 0 0), (.slice none 0 0), (.slice none 0 0), (.slice none 0 0), (.slice none 0
  0), (.slice none 0 0), (.slice none 0 0), (.slice none 0 0), (.slice none 0 0), (.slice none 0 0), (.slice none 0 0), (.slice none 0 0), (.slice none 0 0), (.slice
  none 0 0), (.slice none 0 0), (.slice none 0 0), (.slice none 0 0), (.slice none 0 0), (.slice none 0 0), (.slice none 0 0), (.slice none 0 0), (.slice none 0 0),
  (.slice none 0 0), (.slice none 0 0), (.slice none 0 0), (.slice none 0 0), (.slice none 0 0), (.slice none 0 0), (.slice none 0 0), (.slice none 0 0), (.slice none 0
  0), (.slice none 0 0), (.slice none 0 0), (.slice none 0 0), (.slice none 0 0), (.slice none 0 0), (.slice none 0 0), (.slice none 0 0), (.slice none 0 0), (.slice
  none 0 0), (.slice none 0 0), (.slice none 0 0), (.slice none 0 0), (.slice none 0 0), (.slice none 0 0), (.slice none 0 0), (.slice none 0 0), (.slice none 0 0),
  (.slice none 0 0), (.slice none 0 0), (.slice none 0 0), (.slice none 0 0), (.slice none 0 0), (.slice none 0 0), (.slice none 0 0), (.slice none 0 0), (.slice none 0
  0), (.slice none 0 0), (.slice none 0 0), (.slice none 0 0), (.slice none 0 0), (.slice none 0 0), (.slice none 0 0), (.slice none 0 0), (.slice none 0 0), (.slice
  none 0 0), (.slice none 0 0), (.slice none 0 0), (.slice none 0 0), (.slice none 0 0), (.slice none 0 0), (.slice none 0 0), (.slice none 0 0), (.slice none 0 0),
  (.slice none 0 0), (.slice none 0 0), (.slice none 0 0), (.slice none 0 0), (.slice none 0 0), (.slice none 0 0), (.slice none 0 0), (.slice none 0 0), (.slice none 0
  0)]) [] H fun t8_1 H => jn (sq (fun e3 H => run S (.s2b 5 (.c (e3 1))) [] H fun t33_4 H => run S (.call 38 [(.c t33_4)]) [] H fun t34_5 H => jn (sq (fun e7 H => jn (sq
  (fun e9 H => R (tup [(e9 11), (.bool true)]) H) (fn [(.t 6), (.t 7)] R)) fun Q8 => jn (blk 6 Q8) fun Q10 => WL S b20_0 (upd e7 15 (.int .i64 0)) H Q10) (fn [(.t 6),
  (.t 7)] R)) fun Q6 => jn (blk 2 Q6) fun Q11 => WL S b20_1 (upd (upd (upd (upd (upd (upd e3 32 (e3 1)) 33 t33_4) 34 t34_5) 10 t34_5) 11 (.slice none 0 0)) 12 (.int .i64
  0)) H Q11) (fn [(.t 6), (.t 7)] R)) fun Q2 => jn (blk 0 Q2) fun Q12 => WL S b20_2 (upd (upd (upd (upd (Env.get [a0, a1, a2]) 6 (.slice none 0 0)) 7 (.bool false)) 8
  t8_1) 9 (.int .i64 0)) H Q12
theorem h20 (S : Sys) (a0 a1 a2 : Value) (H : Heap) (R : Kv) : wpC S k20.body (Env.get [a0, a1, a2]) H (fn [(.t 6), (.t 7)] R) = s20 S a0 a1 a2 H R := by kernel_rfl
theorem w20 {S : Sys} (hR : S.R 20 = none) (hF : S.F 20 = some k20) (a0 a1 a2 : Value) {H : Heap} {R : Kv} (h : s20 S a0 a1 a2 H R) : Wf S 20 [a0, a1, a2] H R := Wf_sh
  hR hF ((h20 S a0 a1 a2 H R).mpr h)
def b21_0 : KCode := (.seq (.reg [(.op (some 15) none (.bin .lss (.t 14) (.t 13)))]) (.seq (.cond (.t 15) .skip (.exit 0)) (.seq (.block 1 (.seq (.reg [(.op (some 16)
  none (.mv (.t 14))), (.op (some 17) none (.iad 1 (.t 12) (.t 14))), (.op (some 18) none (.ld (.t 17))), (.op (some 6) none (.mv (.t 16))), (.op (some 7) none (.mv (.t
  18)))]) (.reg [(.op (some 19) none (.mv (.t 5))), (.op (some 20) none (.mv (.t 7))), (.op (some 21) none (.cvt .u64 (.t 20))), (.op (some 22) none (.mv (.t 6))), (.op
  (some 23) none (.bin .mul (.c (.int .i64 8)) (.t 22))), (.op (some 24) none (.bin .shl (.t 21) (.t 23))), (.op (some 25) none (.bin .or (.t 19) (.t 24))), (.op (some
  5) none (.mv (.t 25)))]))) (.reg [(.op (some 26) none (.bin .add (.t 14) (.c (.int .i64 1)))), (.op (some 14) none (.mv (.t 26)))]))))
def s21_0 (S : Sys) (e : Fe) (H : Heap) (Q : Kx) : Prop := run S (.bin .lss (.c (e 14)) (.c (e 13))) [] H fun t15_8 H => jn (sq (fun e10 H => jn (sq (fun e12 H => run S
  (.bin .add (.c (e12 14)) (.c (.int .i64 1))) [] H fun t26_13 H => Q .normal (upd (upd e12 26 t26_13) 14 t26_13) H) Q) fun Q11 => run S (.iad 1 (.c (e10 12)) (.c (e10
  14))) [] H fun t17_14 H => run S (.ld (.c t17_14)) [] H fun t18_15 H => run S (.cvt .u64 (.c t18_15)) [] H fun t21_16 H => run S (.bin .mul (.c (.int .i64 8)) (.c (e10
  14))) [] H fun t23_17 H => run S (.bin .shl (.c t21_16) (.c t23_17)) [] H fun t24_18 H => run S (.bin .or (.c (e10 5)) (.c t24_18)) [] H fun t25_19 H => Q11 .normal
  (upd (upd (upd (upd (upd (upd (upd (upd (upd (upd (upd (upd (upd e10 16 (e10 14)) 17 t17_14) 18 t18_15) 6 (e10 14)) 7 t18_15) 19 (e10 5)) 20 t18_15) 21 t21_16) 22 (e10
  14)) 23 t23_17) 24 t24_18) 25 t25_19) 5 t25_19) H) Q) fun Q9 => cnd t15_8 (fun Q20 => Q20 .normal (upd e 15 t15_8) H) (fun Q21 => Q21 (.exit 0) (upd e 15 t15_8) H) Q9
theorem h21_0 (S : Sys) (e : Fe) (H : Heap) (Q : Kx) : wpC S b21_0 e H Q = s21_0 S e H Q := by kernel_rfl
theorem l21_0 (S : Sys) {Q : Kx} (I : Nat → Fe → Heap → Prop) (d : Nat) {e0 : Fe} {H : Heap} (h0 : I d e0 H) (hr : ∀ (d : Nat) (e : Fe) (H : Heap), I d e H → s21_0 S e H
  (sq (fun e' H' => ∃ d', d' < d ∧ I d' e' H') Q)) : WL S b21_0 e0 H Q := WL_inv I d h0 fun d e H hi => (h21_0 S e H _).mpr (hr d e H hi)
theorem u21_0 (S : Sys) {Q : Kx} {e : Fe} {H : Heap} (h : s21_0 S e H (sq (fun e' H' => WL S b21_0 e' H' Q) Q)) : WL S b21_0 e H Q := WL_once ((h21_0 S e H _).mpr h)
def s21 (S : Sys) (a0 a1 : Value) (H : Heap) (R : Kv) : Prop := run S (.call 40 [(.c a1)]) [] H fun t10_1 H => run S (.call 24 [(.c a0), (.c t10_1)]) [] H fun t11_2 H =>
  run S (.s2b 5 (.c t11_2)) [] H fun t12_3 H => run S (.lenL (.c t12_3)) [] H fun t13_4 H => jn (sq (fun e6 H => R (e6 5) H) (fn [(.t 4)] R)) fun Q5 => jn (blk 0 Q5) fun
  Q7 => WL S b21_0 (upd (upd (upd (upd (upd (upd (upd (upd (upd (Env.get [a0, a1]) 4 (.int .u64 0)) 5 (.int .u64 0)) 8 a0) 9 a1) 10 t10_1) 11 t11_2) 12 t12_3) 13 t13_4)
  14 (.int .i64 0)) H Q7
theorem h21 (S : Sys) (a0 a1 : Value) (H : Heap) (R : Kv) : wpC S k21.body (Env.get [a0, a1]) H (fn [(.t 4)] R) = s21 S a0 a1 H R := by kernel_rfl
theorem w21 {S : Sys} (hR : S.R 21 = none) (hF : S.F 21 = some k21) (a0 a1 : Value) {H : Heap} {R : Kv} (h : s21 S a0 a1 H R) : Wf S 21 [a0, a1] H R := Wf_sh hR hF ((h21
  S a0 a1 H R).mpr h)
def s22 (S : Sys) (a0 a1 : Value) (H : Heap) (R : Kv) : Prop := run S (.call 41 [(.c a0)]) [] H fun t7_1 H => run S (.call 23 [(.c a0)]) [] H fun t9_2 H => gd t9_2 false
  (run S (.mv (.c a1)) [] H) H fun t11_3 H => gd t9_2 false (run S (.bin .lss (.c t11_3) (.c (.int .i64 0))) [] H) H fun t12_4 H => run S (.pick (.c t9_2) (.c (.bool
  true)) (.c t12_4)) [] H fun t13_5 H => gd t13_5 false (run S (.mv (.c t7_1)) [] H) H fun t15_6 H => gd t13_5 false (run S (.mv (.c a1)) [] H) H fun t16_7 H => gd t13_5
  false (run S (.cvt .u64 (.c t16_7)) [] H) H fun t17_8 H => gd t13_5 false (run S (.bin .gtr (.c t15_6) (.c t17_8)) [] H) H fun t18_9 H => run S (.pick (.c t13_5) (.c
  (.bool true)) (.c t18_9)) [] H fun t19_10 H => jn (sq (fun e12 H => run S (.cvt .i64 (.c (e12 5))) [] H fun t23_13 H => R t23_13 H) (fn [(.t 4)] R)) fun Q11 => cnd
  t19_10 (fun Q14 => run S (.call 42 [(.c a0)]) [] H fun t21_16 H => Q14 .ret (upd (upd (upd (upd (upd (upd (upd (upd (upd (upd (upd (upd (upd (upd (upd (upd (upd (upd
  (upd (Env.get [a0, a1]) 4 (.int .i64 0)) 6 a0) 7 t7_1) 5 t7_1) 8 a0) 9 t9_2) 10 t9_2) 11 t11_3) 12 t12_4) 13 t13_5) 14 t13_5) 15 t15_6) 16 t16_7) 17 t17_8) 18 t18_9)
  19 t19_10) 20 a0) 21 t21_16) 4 (.int .i64 0)) H) (fun Q15 => Q15 .normal (upd (upd (upd (upd (upd (upd (upd (upd (upd (upd (upd (upd (upd (upd (upd (upd (Env.get [a0,
  a1]) 4 (.int .i64 0)) 6 a0) 7 t7_1) 5 t7_1) 8 a0) 9 t9_2) 10 t9_2) 11 t11_3) 12 t12_4) 13 t13_5) 14 t13_5) 15 t15_6) 16 t16_7) 17 t17_8) 18 t18_9) 19 t19_10) H) Q11
theorem h22 (S : Sys) (a0 a1 : Value) (H : Heap) (R : Kv) : wpC S k22.body (Env.get [a0, a1]) H (fn [(.t 4)] R) = s22 S a0 a1 H R := by kernel_rfl
theorem w22 {S : Sys} (hR : S.R 22 = none) (hF : S.F 22 = some k22) (a0 a1 : Value) {H : Heap} {R : Kv} (h : s22 S a0 a1 H R) : Wf S 22 [a0, a1] H R := Wf_sh hR hF ((h22
  S a0 a1 H R).mpr h)
def s23 (S : Sys) (a0 : Value) (H : Heap) (R : Kv) : Prop := run S (.eqv .ptr false (.c a0) (.c (.pointer none))) [] H fun t4_1 H => gd t4_1 false (run S (.mv (.c a0))
  [] H) H fun t6_2 H => gd t4_1 false (run S (.nck (.c t6_2)) [] H) H fun t7_3 H => gd t4_1 false (run S (.fad 1 (.c t7_3)) [] H) H fun t8_4 H => gd t4_1 false (run S
  (.ld (.c t8_4)) [] H) H fun t9_5 H => run S (.pick (.c t4_1) (.c (.bool true)) (.c t9_5)) [] H fun t10_6 H => R t10_6 H
theorem h23 (S : Sys) (a0 : Value) (H : Heap) (R : Kv) : wpC S k23.body (Env.get [a0]) H (fn [(.t 2)] R) = s23 S a0 H R := by kernel_rfl
theorem w23 {S : Sys} (hR : S.R 23 = none) (hF : S.F 23 = some k23) (a0 : Value) {H : Heap} {R : Kv} (h : s23 S a0 H R) : Wf S 23 [a0] H R := Wf_sh hR hF ((h23 S a0 H
  R).mpr h)
def s24 (S : Sys) (a0 a1 : Value) (H : Heap) (R : Kv) : Prop := run S (.mx (.c a1) [(.c (.int .i64 0))]) [] H fun t7_1 H => run S (.call 23 [(.c a0)]) [] H fun t9_2 H =>
  gd t9_2 false (run S (.mv (.c a0)) [] H) H fun t11_3 H => gd t9_2 false (run S (.nck (.c t11_3)) [] H) H fun t12_4 H => gd t9_2 false (run S (.fad 0 (.c t12_4)) [] H)
  H fun t13_5 H => gd t9_2 false (run S (.ld (.c t13_5)) [] H) H fun t14_6 H => gd t9_2 false (run S (.lenS (.c t14_6)) [] H) H fun t15_7 H => gd t9_2 false (run S (.mv
  (.c t7_1)) [] H) H fun t16_8 H => gd t9_2 false (run S (.bin .lss (.c t15_7) (.c t16_8)) [] H) H fun t17_9 H => run S (.pick (.c t9_2) (.c (.bool true)) (.c t17_9)) []
  H fun t18_10 H => jn (sq (fun e12 H => run S (.nck (.c (e12 0))) [] H fun t22_13 H => run S (.fad 0 (.c t22_13)) [] H fun t23_14 H => run S (.ld (.c t23_14)) [] H fun
  t24_15 H => run S (.slS (.c t24_15) none (some (.c (e12 1)))) [] H fun t26_16 H => run S (.nck (.c (e12 0))) [] H fun t29_17 H => run S (.fad 0 (.c t29_17)) [] H fun
  t30_18 H => run S (.ld (.c t30_18)) [] H fun t31_19 H => run S (.slS (.c t31_19) (some (.c (e12 1))) none) [] H fun t33_20 H => run S (.nck (.c (e12 0))) [] H fun
  t34_21 H => run S (.fad 0 (.c t34_21)) [] H fun t35_22 H => run S (.st (.c t35_22) (.c t33_20)) [] H fun _ H => R t26_16 H) (fn [(.t 4)] R)) fun Q11 => cnd t18_10 (fun
  Q23 => run S (.call 42 [(.c a0)]) [] H fun t20_25 H => Q23 .ret (upd (upd (upd (upd (upd (upd (upd (upd (upd (upd (upd (upd (upd (upd (upd (upd (upd (upd (Env.get [a0,
  a1]) 4 (.string (bs []))) 6 a1) 7 t7_1) 1 t7_1) 8 a0) 9 t9_2) 10 t9_2) 11 t11_3) 12 t12_4) 13 t13_5) 14 t14_6) 15 t15_7) 16 t16_8) 17 t17_9) 18 t18_10) 19 a0) 20
  t20_25) 4 (.string (bs []))) H) (fun Q24 => Q24 .normal (upd (upd (upd (upd (upd (upd (upd (upd (upd (upd (upd (upd (upd (upd (upd (Env.get [a0, a1]) 4 (.string (bs
  []))) 6 a1) 7 t7_1) 1 t7_1) 8 a0) 9 t9_2) 10 t9_2) 11 t11_3) 12 t12_4) 13 t13_5) 14 t14_6) 15 t15_7) 16 t16_8) 17 t17_9) 18 t18_10) H) Q11
theorem h24 (S : Sys) (a0 a1 : Value) (H : Heap) (R : Kv) : wpC S k24.body (Env.get [a0, a1]) H (fn [(.t 4)] R) = s24 S a0 a1 H R := by kernel_rfl
theorem w24 {S : Sys} (hR : S.R 24 = none) (hF : S.F 24 = some k24) (a0 a1 : Value) {H : Heap} {R : Kv} (h : s24 S a0 a1 H R) : Wf S 24 [a0, a1] H R := Wf_sh hR hF ((h24
  S a0 a1 H R).mpr h)
def s26 (S : Sys) (a0 a1 : Value) (H : Heap) (R : Kv) : Prop := run S (.call 49 [(.c a0)]) [] H fun t12_1 H => run S (.xt (.c t12_1) 0) [] H fun t13_2 H => run S (.xt
  (.c t12_1) 1) [] H fun t14_3 H => run S (.un .not (.c t14_3)) [] H fun t16_4 H => jn (sq (fun e6 H => run S (.call 50 [(.c (e6 0)), (.c (.int .i64 1048576))]) [] H fun
  t18_7 H => run S (.call 23 [(.c (e6 0))]) [] H fun t20_8 H => jn (sq (fun e10 H => run S (.call 51 [(.c (e10 6)), (.c (e10 8)), (.c (e10 1))]) [] H fun t25_11 H => run
  S (.xt (.c t25_11) 0) [] H fun t26_12 H => run S (.xt (.c t25_11) 1) [] H fun t27_13 H => run S (.b2s 5 (.c t26_12)) [] H fun t29_14 H => R (tup [t29_14, t27_13]) H)
  (fn [(.t 4), (.t 5)] R)) fun Q9 => cnd t20_8 (fun Q15 => Q15 .ret (upd (upd (upd (upd (upd (upd (upd e6 17 (e6 0)) 18 t18_7) 8 t18_7) 19 (e6 0)) 20 t20_8) 4 (.string
  (bs []))) 5 (.bool false)) H) (fun Q16 => Q16 .normal (upd (upd (upd (upd (upd e6 17 (e6 0)) 18 t18_7) 8 t18_7) 19 (e6 0)) 20 t20_8) H) Q9) (fn [(.t 4), (.t 5)] R))
  fun Q5 => cnd t16_4 (fun Q17 => Q17 .ret (upd (upd (upd (upd (upd (upd (upd (upd (upd (upd (upd (upd (upd (Env.get [a0, a1]) 4 (.string (bs []))) 5 (.bool false)) 11
  a0) 12 t12_1) 10 t12_1) 13 t13_2) 14 t14_3) 6 t13_2) 7 t14_3) 15 t14_3) 16 t16_4) 4 (.string (bs []))) 5 (.bool false)) H) (fun Q18 => Q18 .normal (upd (upd (upd (upd
  (upd (upd (upd (upd (upd (upd (upd (Env.get [a0, a1]) 4 (.string (bs []))) 5 (.bool false)) 11 a0) 12 t12_1) 10 t12_1) 13 t13_2) 14 t14_3) 6 t13_2) 7 t14_3) 15 t14_3)
  16 t16_4) H) Q5
theorem h26 (S : Sys) (a0 a1 : Value) (H : Heap) (R : Kv) : wpC S k26.body (Env.get [a0, a1]) H (fn [(.t 4), (.t 5)] R) = s26 S a0 a1 H R := by kernel_rfl
theorem w26 {S : Sys} (hR : S.R 26 = none) (hF : S.F 26 = some k26) (a0 a1 : Value) {H : Heap} {R : Kv} (h : s26 S a0 a1 H R) : Wf S 26 [a0, a1] H R := Wf_sh hR hF ((h26
  S a0 a1 H R).mpr h)
def b27_0 : KCode := (.seq (.seq (.reg [(.op (some 4) none (.mv (.t 0))), (.op (some 5) none (.bin .geq (.t 4) (.c (.int .u64 128))))]) (.cond (.t 5) .skip (.exit 0)))
  (.block 1 (.seq (.reg [(.op (some 6) none (.mv (.t 3))), (.op (some 7) none (.mv (.t 0))), (.op (some 8) none (.bin .rem (.t 7) (.c (.int .u64 128)))), (.op (some 9)
  none (.bin .add (.t 8) (.c (.int .u64 128)))), (.op (some 10) none (.cvt .u8 (.t 9))), (.op (some 11) none (.bsl 5 1 [(.int .u8 0)] [(0, (1, (.t 10)))])), (.op (some
  12) none (.b2s 5 (.t 11))), (.op (some 13) none (.bin .add (.t 6) (.t 12))), (.op (some 3) none (.mv (.t 13)))]) (.reg [(.op (some 14) none (.mv (.t 0))), (.op (some
  15) none (.bin .quo (.t 14) (.c (.int .u64 128)))), (.op (some 0) none (.mv (.t 15)))]))))
def s27_0 (S : Sys) (e : Fe) (H : Heap) (Q : Kx) : Prop := run S (.bin .geq (.c (e 0)) (.c (.int .u64 128))) [] H fun t5_8 H => jn (sq (fun e10 H => run S (.bin .rem (.c
  (e10 0)) (.c (.int .u64 128))) [] H fun t8_11 H => run S (.bin .add (.c t8_11) (.c (.int .u64 128))) [] H fun t9_12 H => run S (.cvt .u8 (.c t9_12)) [] H fun t10_13 H
  => run S (.bsl 5 1 [(.int .u8 0)] [(0, (1, (.c t10_13)))]) [] H fun t11_14 H => run S (.b2s 5 (.c t11_14)) [] H fun t12_15 H => run S (.bin .add (.c (e10 3)) (.c
  t12_15)) [] H fun t13_16 H => run S (.bin .quo (.c (e10 0)) (.c (.int .u64 128))) [] H fun t15_17 H => Q .normal (upd (upd (upd (upd (upd (upd (upd (upd (upd (upd (upd
  (upd e10 6 (e10 3)) 7 (e10 0)) 8 t8_11) 9 t9_12) 10 t10_13) 11 t11_14) 12 t12_15) 13 t13_16) 3 t13_16) 14 (e10 0)) 15 t15_17) 0 t15_17) H) Q) fun Q9 => cnd t5_8 (fun
  Q18 => Q18 .normal (upd (upd e 4 (e 0)) 5 t5_8) H) (fun Q19 => Q19 (.exit 0) (upd (upd e 4 (e 0)) 5 t5_8) H) Q9
theorem h27_0 (S : Sys) (e : Fe) (H : Heap) (Q : Kx) : wpC S b27_0 e H Q = s27_0 S e H Q := by kernel_rfl
theorem l27_0 (S : Sys) {Q : Kx} (I : Nat → Fe → Heap → Prop) (d : Nat) {e0 : Fe} {H : Heap} (h0 : I d e0 H) (hr : ∀ (d : Nat) (e : Fe) (H : Heap), I d e H → s27_0 S e H
  (sq (fun e' H' => ∃ d', d' < d ∧ I d' e' H') Q)) : WL S b27_0 e0 H Q := WL_inv I d h0 fun d e H hi => (h27_0 S e H _).mpr (hr d e H hi)
theorem u27_0 (S : Sys) {Q : Kx} {e : Fe} {H : Heap} (h : s27_0 S e H (sq (fun e' H' => WL S b27_0 e' H' Q) Q)) : WL S b27_0 e H Q := WL_once ((h27_0 S e H _).mpr h)
def s27 (S : Sys) (a0 : Value) (H : Heap) (R : Kv) : Prop := jn (sq (fun e2 H => run S (.cvt .u8 (.c (e2 0))) [] H fun t18_3 H => run S (.bsl 5 1 [(.int .u8 0)] [(0, (1,
  (.c t18_3)))]) [] H fun t19_4 H => run S (.b2s 5 (.c t19_4)) [] H fun t20_5 H => run S (.bin .add (.c (e2 3)) (.c t20_5)) [] H fun t21_6 H => R t21_6 H) (fn [(.t 2)]
  R)) fun Q1 => jn (blk 0 Q1) fun Q7 => WL S b27_0 (upd (upd (Env.get [a0]) 2 (.string (bs []))) 3 (.string (bs []))) H Q7
theorem h27 (S : Sys) (a0 : Value) (H : Heap) (R : Kv) : wpC S k27.body (Env.get [a0]) H (fn [(.t 2)] R) = s27 S a0 H R := by kernel_rfl
theorem w27 {S : Sys} (hR : S.R 27 = none) (hF : S.F 27 = some k27) (a0 : Value) {H : Heap} {R : Kv} (h : s27 S a0 H R) : Wf S 27 [a0] H R := Wf_sh hR hF ((h27 S a0 H
  R).mpr h)
def b28_0 : KCode := (.seq (.reg [(.op (some 12) none (.bin .lss (.t 11) (.t 10)))]) (.seq (.cond (.t 12) .skip (.exit 0)) (.seq (.block 1 (.seq (.reg [(.op (some 13)
  none (.mv (.t 0))), (.op (some 14) none (.mv (.t 0))), (.op (some 15) none (.nck (.t 14))), (.op (some 16) none (.fad 0 (.t 15))), (.op (some 17) none (.ld (.t 16))),
  (.op (some 18) none (.mv (.t 1))), (.op (some 19) none (.cvt .u8 (.t 18))), (.op (some 20) none (.bsl 5 1 [(.int .u8 0)] [(0, (1, (.t 19)))])), (.op (some 21) none
  (.app 5 1 1 (.t 17) (.t 20))), (.op (some 22) none (.nck (.t 13))), (.op (some 23) none (.fad 0 (.t 22))), (.op none none (.st (.t 23) (.t 21)))]) (.reg [(.op (some
  24) none (.mv (.t 1))), (.op (some 25) none (.bin .shr (.t 24) (.c (.int .u64 8)))), (.op (some 1) none (.mv (.t 25)))]))) (.reg [(.op (some 26) none (.bin .add (.t
  11) (.c (.int .i64 1)))), (.op (some 11) none (.mv (.t 26)))]))))
def s28_0 (S : Sys) (e : Fe) (H : Heap) (Q : Kx) : Prop := run S (.bin .lss (.c (e 11)) (.c (e 10))) [] H fun t12_10 H => jn (sq (fun e12 H => jn (sq (fun e14 H => run S
  (.bin .add (.c (e14 11)) (.c (.int .i64 1))) [] H fun t26_15 H => Q .normal (upd (upd e14 26 t26_15) 11 t26_15) H) Q) fun Q13 => run S (.nck (.c (e12 0))) [] H fun
  t15_16 H => run S (.fad 0 (.c t15_16)) [] H fun t16_17 H => run S (.ld (.c t16_17)) [] H fun t17_18 H => run S (.cvt .u8 (.c (e12 1))) [] H fun t19_19 H => run S (.bsl
  5 1 [(.int .u8 0)] [(0, (1, (.c t19_19)))]) [] H fun t20_20 H => run S (.app 5 1 1 (.c t17_18) (.c t20_20)) [] H fun t21_21 H => run S (.nck (.c (e12 0))) [] H fun
  t22_22 H => run S (.fad 0 (.c t22_22)) [] H fun t23_23 H => run S (.st (.c t23_23) (.c t21_21)) [] H fun _ H => run S (.bin .shr (.c (e12 1)) (.c (.int .u64 8))) [] H
  fun t25_24 H => Q13 .normal (upd (upd (upd (upd (upd (upd (upd (upd (upd (upd (upd (upd (upd (upd e12 13 (e12 0)) 14 (e12 0)) 15 t15_16) 16 t16_17) 17 t17_18) 18 (e12
  1)) 19 t19_19) 20 t20_20) 21 t21_21) 22 t22_22) 23 t23_23) 24 (e12 1)) 25 t25_24) 1 t25_24) H) Q) fun Q11 => cnd t12_10 (fun Q25 => Q25 .normal (upd e 12 t12_10) H)
  (fun Q26 => Q26 (.exit 0) (upd e 12 t12_10) H) Q11
theorem h28_0 (S : Sys) (e : Fe) (H : Heap) (Q : Kx) : wpC S b28_0 e H Q = s28_0 S e H Q := by kernel_rfl
theorem l28_0 (S : Sys) {Q : Kx} (I : Nat → Fe → Heap → Prop) (d : Nat) {e0 : Fe} {H : Heap} (h0 : I d e0 H) (hr : ∀ (d : Nat) (e : Fe) (H : Heap), I d e H → s28_0 S e H
  (sq (fun e' H' => ∃ d', d' < d ∧ I d' e' H') Q)) : WL S b28_0 e0 H Q := WL_inv I d h0 fun d e H hi => (h28_0 S e H _).mpr (hr d e H hi)
theorem u28_0 (S : Sys) {Q : Kx} {e : Fe} {H : Heap} (h : s28_0 S e H (sq (fun e' H' => WL S b28_0 e' H' Q) Q)) : WL S b28_0 e H Q := WL_once ((h28_0 S e H _).mpr h)
def s28 (S : Sys) (a0 a1 a2 : Value) (H : Heap) (R : Kv) : Prop := run S (.eqv .ptr false (.c a0) (.c (.pointer none))) [] H fun t8_1 H => jn (sq (fun e3 H => run S
  (.call 40 [(.c (e3 2))]) [] H fun t10_4 H => jn (sq (fun e6 H => R (e6 0) H) (fn [(.t 6)] R)) fun Q5 => jn (blk 0 Q5) fun Q7 => WL S b28_0 (upd (upd (upd e3 9 (e3 2))
  10 t10_4) 11 (.int .i64 0)) H Q7) (fn [(.t 6)] R)) fun Q2 => cnd t8_1 (fun Q8 => Q8 .ret (upd (upd (upd (upd (Env.get [a0, a1, a2]) 6 (.pointer none)) 7 a0) 8 t8_1) 6
  (.pointer none)) H) (fun Q9 => Q9 .normal (upd (upd (upd (Env.get [a0, a1, a2]) 6 (.pointer none)) 7 a0) 8 t8_1) H) Q2
theorem h28 (S : Sys) (a0 a1 a2 : Value) (H : Heap) (R : Kv) : wpC S k28.body (Env.get [a0, a1, a2]) H (fn [(.t 6)] R) = s28 S a0 a1 a2 H R := by kernel_rfl
theorem w28 {S : Sys} (hR : S.R 28 = none) (hF : S.F 28 = some k28) (a0 a1 a2 : Value) {H : Heap} {R : Kv} (h : s28 S a0 a1 a2 H R) : Wf S 28 [a0, a1, a2] H R := Wf_sh
  hR hF ((h28 S a0 a1 a2 H R).mpr h)
def b29_0 : KCode := (.seq (.seq (.reg [(.op (some 7) none (.mv (.t 1))), (.op (some 8) none (.bin .gtr (.t 7) (.c (.int .u64 127))))]) (.cond (.t 8) .skip (.exit 0)))
  (.block 1 (.seq (.reg [(.op (some 9) none (.mv (.t 0))), (.op (some 10) none (.mv (.t 0))), (.op (some 11) none (.nck (.t 10))), (.op (some 12) none (.fad 0 (.t 11))),
  (.op (some 13) none (.ld (.t 12))), (.op (some 14) none (.mv (.t 1))), (.op (some 15) none (.cvt .u8 (.t 14))), (.op (some 16) none (.bin .or (.t 15) (.c (.int .u8
  128)))), (.op (some 17) none (.bsl 5 1 [(.int .u8 0)] [(0, (1, (.t 16)))])), (.op (some 18) none (.app 5 1 1 (.t 13) (.t 17))), (.op (some 19) none (.nck (.t 9))),
  (.op (some 20) none (.fad 0 (.t 19))), (.op none none (.st (.t 20) (.t 18)))]) (.reg [(.op (some 21) none (.mv (.t 1))), (.op (some 22) none (.bin .shr (.t 21) (.c
  (.int .u64 7)))), (.op (some 1) none (.mv (.t 22)))]))))
def s29_0 (S : Sys) (e : Fe) (H : Heap) (Q : Kx) : Prop := run S (.bin .gtr (.c (e 1)) (.c (.int .u64 127))) [] H fun t8_17 H => jn (sq (fun e19 H => run S (.nck (.c
  (e19 0))) [] H fun t11_20 H => run S (.fad 0 (.c t11_20)) [] H fun t12_21 H => run S (.ld (.c t12_21)) [] H fun t13_22 H => run S (.cvt .u8 (.c (e19 1))) [] H fun
  t15_23 H => run S (.bin .or (.c t15_23) (.c (.int .u8 128))) [] H fun t16_24 H => run S (.bsl 5 1 [(.int .u8 0)] [(0, (1, (.c t16_24)))]) [] H fun t17_25 H => run S
  (.app 5 1 1 (.c t13_22) (.c t17_25)) [] H fun t18_26 H => run S (.nck (.c (e19 0))) [] H fun t19_27 H => run S (.fad 0 (.c t19_27)) [] H fun t20_28 H => run S (.st (.c
  t20_28) (.c t18_26)) [] H fun _ H => run S (.bin .shr (.c (e19 1)) (.c (.int .u64 7))) [] H fun t22_29 H => Q .normal (upd (upd (upd (upd (upd (upd (upd (upd (upd (upd
  (upd (upd (upd (upd (upd e19 9 (e19 0)) 10 (e19 0)) 11 t11_20) 12 t12_21) 13 t13_22) 14 (e19 1)) 15 t15_23) 16 t16_24) 17 t17_25) 18 t18_26) 19 t19_27) 20 t20_28) 21
  (e19 1)) 22 t22_29) 1 t22_29) H) Q) fun Q18 => cnd t8_17 (fun Q30 => Q30 .normal (upd (upd e 7 (e 1)) 8 t8_17) H) (fun Q31 => Q31 (.exit 0) (upd (upd e 7 (e 1)) 8
  t8_17) H) Q18
theorem h29_0 (S : Sys) (e : Fe) (H : Heap) (Q : Kx) : wpC S b29_0 e H Q = s29_0 S e H Q := by kernel_rfl
theorem l29_0 (S : Sys) {Q : Kx} (I : Nat → Fe → Heap → Prop) (d : Nat) {e0 : Fe} {H : Heap} (h0 : I d e0 H) (hr : ∀ (d : Nat) (e : Fe) (H : Heap), I d e H → s29_0 S e H
  (sq (fun e' H' => ∃ d', d' < d ∧ I d' e' H') Q)) : WL S b29_0 e0 H Q := WL_inv I d h0 fun d e H hi => (h29_0 S e H _).mpr (hr d e H hi)
theorem u29_0 (S : Sys) {Q : Kx} {e : Fe} {H : Heap} (h : s29_0 S e H (sq (fun e' H' => WL S b29_0 e' H' Q) Q)) : WL S b29_0 e H Q := WL_once ((h29_0 S e H _).mpr h)
def s29 (S : Sys) (a0 a1 : Value) (H : Heap) (R : Kv) : Prop := run S (.eqv .ptr false (.c a0) (.c (.pointer none))) [] H fun t6_1 H => jn (sq (fun e3 H => jn (sq (fun
  e5 H => run S (.nck (.c (e5 0))) [] H fun t25_6 H => run S (.fad 0 (.c t25_6)) [] H fun t26_7 H => run S (.ld (.c t26_7)) [] H fun t27_8 H => run S (.cvt .u8 (.c (e5
  1))) [] H fun t29_9 H => run S (.bsl 5 1 [(.int .u8 0)] [(0, (1, (.c t29_9)))]) [] H fun t30_10 H => run S (.app 5 1 1 (.c t27_8) (.c t30_10)) [] H fun t31_11 H => run
  S (.nck (.c (e5 0))) [] H fun t32_12 H => run S (.fad 0 (.c t32_12)) [] H fun t33_13 H => run S (.st (.c t33_13) (.c t31_11)) [] H fun _ H => R (e5 0) H) (fn [(.t 4)]
  R)) fun Q4 => jn (blk 0 Q4) fun Q14 => WL S b29_0 e3 H Q14) (fn [(.t 4)] R)) fun Q2 => cnd t6_1 (fun Q15 => Q15 .ret (upd (upd (upd (upd (Env.get [a0, a1]) 4 (.pointer
  none)) 5 a0) 6 t6_1) 4 (.pointer none)) H) (fun Q16 => Q16 .normal (upd (upd (upd (Env.get [a0, a1]) 4 (.pointer none)) 5 a0) 6 t6_1) H) Q2
theorem h29 (S : Sys) (a0 a1 : Value) (H : Heap) (R : Kv) : wpC S k29.body (Env.get [a0, a1]) H (fn [(.t 4)] R) = s29 S a0 a1 H R := by kernel_rfl
theorem w29 {S : Sys} (hR : S.R 29 = none) (hF : S.F 29 = some k29) (a0 a1 : Value) {H : Heap} {R : Kv} (h : s29 S a0 a1 H R) : Wf S 29 [a0, a1] H R := Wf_sh hR hF ((h29
  S a0 a1 H R).mpr h)
def s34 (S : Sys) (a0 a1 : Value) (H : Heap) (R : Kv) : Prop := run S (.lenS (.c a1)) [] H fun t7_1 H => run S (.cvt .u64 (.c t7_1)) [] H fun t8_2 H => run S (.call 29
  [(.c a0), (.c t8_2)]) [] H fun t9_3 H => run S (.call 15 [(.c t9_3), (.c a1)]) [] H fun t11_4 H => R t11_4 H
theorem h34 (S : Sys) (a0 a1 : Value) (H : Heap) (R : Kv) : wpC S k34.body (Env.get [a0, a1]) H (fn [(.t 4)] R) = s34 S a0 a1 H R := by kernel_rfl
theorem w34 {S : Sys} (hR : S.R 34 = none) (hF : S.F 34 = some k34) (a0 a1 : Value) {H : Heap} {R : Kv} (h : s34 S a0 a1 H R) : Wf S 34 [a0, a1] H R := Wf_sh hR hF ((h34
  S a0 a1 H R).mpr h)
def b35_0 : KCode := (.seq (.seq (.reg [(.op (some 9) none (.mv (.t 5))), (.op (some 10) none (.mv (.t 0))), (.op (some 11) none (.lenL (.t 10))), (.op (some 12) none
  (.bin .lss (.t 9) (.t 11)))]) (.cond (.t 12) .skip (.exit 0))) (.seq (.block 1 (.seq (.reg [(.op (some 15) none (.mv (.t 0))), (.op (some 16) none (.mv (.t 5))), (.op
  (some 17) none (.iad 1 (.t 15) (.t 16))), (.op (some 18) none (.ld (.t 17))), (.op (some 19) none (.bin .gtr (.t 18) (.c (.int .i64 0))))]) (.cond (.t 19) (.seq (.reg
  [(.op (some 20) none (.mv (.t 3))), (.op (some 21) none (.mv (.t 0))), (.op (some 22) none (.mv (.t 5))), (.op (some 23) none (.iad 1 (.t 21) (.t 22))), (.op (some 24)
  none (.ld (.t 23))), (.op (some 25) none (.bin .sub (.c (.int .i64 11)) (.t 24))), (.op (some 26) none (.call 64 [(.t 25)])), (.op (some 27) none (.bin .add (.t 20)
  (.t 26))), (.op (some 3) none (.mv (.t 27)))]) (.reg [(.op (some 28) none (.mv (.t 4))), (.op (some 29) none (.bin .add (.t 28) (.c (.int .i64 1)))), (.op (some 4)
  none (.mv (.t 29)))])) .skip))) (.reg [(.op (some 13) none (.mv (.t 5))), (.op (some 14) none (.bin .add (.t 13) (.c (.int .i64 1)))), (.op (some 5) none (.mv (.t
  14)))])))
def s35_0 (S : Sys) (e : Fe) (H : Heap) (Q : Kx) : Prop := run S (.lenL (.c (e 0))) [] H fun t11_18 H => run S (.bin .lss (.c (e 5)) (.c t11_18)) [] H fun t12_19 H => jn
  (sq (fun e21 H => jn (sq (fun e23 H => run S (.bin .add (.c (e23 5)) (.c (.int .i64 1))) [] H fun t14_24 H => Q .normal (upd (upd (upd e23 13 (e23 5)) 14 t14_24) 5
  t14_24) H) Q) fun Q22 => run S (.iad 1 (.c (e21 0)) (.c (e21 5))) [] H fun t17_25 H => run S (.ld (.c t17_25)) [] H fun t18_26 H => run S (.bin .gtr (.c t18_26) (.c
  (.int .i64 0))) [] H fun t19_27 H => jn (blk 1 Q22) fun Q28 => cnd t19_27 (fun Q29 => run S (.iad 1 (.c (e21 0)) (.c (e21 5))) [] H fun t23_31 H => run S (.ld (.c
  t23_31)) [] H fun t24_32 H => run S (.bin .sub (.c (.int .i64 11)) (.c t24_32)) [] H fun t25_33 H => run S (.call 64 [(.c t25_33)]) [] H fun t26_34 H => run S (.bin
  .add (.c (e21 3)) (.c t26_34)) [] H fun t27_35 H => run S (.bin .add (.c (e21 4)) (.c (.int .i64 1))) [] H fun t29_36 H => Q29 .normal (upd (upd (upd (upd (upd (upd
  (upd (upd (upd (upd (upd (upd (upd (upd (upd (upd (upd e21 15 (e21 0)) 16 (e21 5)) 17 t17_25) 18 t18_26) 19 t19_27) 20 (e21 3)) 21 (e21 0)) 22 (e21 5)) 23 t23_31) 24
  t24_32) 25 t25_33) 26 t26_34) 27 t27_35) 3 t27_35) 28 (e21 4)) 29 t29_36) 4 t29_36) H) (fun Q30 => Q30 .normal (upd (upd (upd (upd (upd e21 15 (e21 0)) 16 (e21 5)) 17
  t17_25) 18 t18_26) 19 t19_27) H) Q28) Q) fun Q20 => cnd t12_19 (fun Q37 => Q37 .normal (upd (upd (upd (upd e 9 (e 5)) 10 (e 0)) 11 t11_18) 12 t12_19) H) (fun Q38 =>
  Q38 (.exit 0) (upd (upd (upd (upd e 9 (e 5)) 10 (e 0)) 11 t11_18) 12 t12_19) H) Q20
theorem h35_0 (S : Sys) (e : Fe) (H : Heap) (Q : Kx) : wpC S b35_0 e H Q = s35_0 S e H Q := by kernel_rfl
theorem l35_0 (S : Sys) {Q : Kx} (I : Nat → Fe → Heap → Prop) (d : Nat) {e0 : Fe} {H : Heap} (h0 : I d e0 H) (hr : ∀ (d : Nat) (e : Fe) (H : Heap), I d e H → s35_0 S e H
  (sq (fun e' H' => ∃ d', d' < d ∧ I d' e' H') Q)) : WL S b35_0 e0 H Q := WL_inv I d h0 fun d e H hi => (h35_0 S e H _).mpr (hr d e H hi)
theorem u35_0 (S : Sys) {Q : Kx} {e : Fe} {H : Heap} (h : s35_0 S e H (sq (fun e' H' => WL S b35_0 e' H' Q) Q)) : WL S b35_0 e H Q := WL_once ((h35_0 S e H _).mpr h)
def s35 (S : Sys) (a0 : Value) (H : Heap) (R : Kv) : Prop := run S (.call 63 [(.c a0)]) [] H fun t7_1 H => run S (.un .not (.c t7_1)) [] H fun t8_2 H => jn (sq (fun e4 H
  => jn (sq (fun e6 H => run S (.bin .eql (.c (e6 3)) (.c (.int .i64 2048))) [] H fun t31_7 H => gd t31_7 false (run S (.mv (.c (e6 4))) [] H) H fun t33_8 H => gd t31_7
  false (run S (.bin .eql (.c t33_8) (.c (.int .i64 1))) [] H) H fun t34_9 H => gd t31_7 false (run S (.mv (.c t34_9)) [] H) H fun t35_10 H => gd t35_10 true (run S (.mv
  (.c (e6 3))) [] H) H fun t36_11 H => gd t35_10 true (run S (.bin .eql (.c t36_11) (.c (.int .i64 1024))) [] H) H fun t37_12 H => gd t31_7 false (run S (.pick (.c
  t35_10) (.c t37_12) (.c (.bool false))) [] H) H fun t38_13 H => run S (.pick (.c t31_7) (.c (.bool true)) (.c t38_13)) [] H fun t39_14 H => R t39_14 H) (fn [(.t 2)]
  R)) fun Q5 => jn (blk 0 Q5) fun Q15 => WL S b35_0 (upd (upd (upd e4 3 (.int .i64 0)) 4 (.int .i64 0)) 5 (.int .i64 0)) H Q15) (fn [(.t 2)] R)) fun Q3 => cnd t8_2 (fun
  Q16 => Q16 .ret (upd (upd (upd (upd (upd (Env.get [a0]) 2 (.bool false)) 6 a0) 7 t7_1) 8 t8_2) 2 (.bool false)) H) (fun Q17 => Q17 .normal (upd (upd (upd (upd (Env.get
  [a0]) 2 (.bool false)) 6 a0) 7 t7_1) 8 t8_2) H) Q3
theorem h35 (S : Sys) (a0 : Value) (H : Heap) (R : Kv) : wpC S k35.body (Env.get [a0]) H (fn [(.t 2)] R) = s35 S a0 H R := by kernel_rfl
theorem w35 {S : Sys} (hR : S.R 35 = none) (hF : S.F 35 = some k35) (a0 : Value) {H : Heap} {R : Kv} (h : s35 S a0 H R) : Wf S 35 [a0] H R := Wf_sh hR hF ((h35 S a0 H
  R).mpr h)
def b37_0 : KCode := (.seq (.seq (.reg [(.op (some 18) none (.mv (.t 7))), (.op (some 19) none (.bin .geq (.t 18) (.c (.int .i64 0))))]) (.cond (.t 19) .skip (.exit 0)))
  (.seq (.block 1 (.reg [(.op (some 22) none (.mv (.t 5))), (.op (some 23) none (.mv (.t 6))), (.op (some 24) none (.mv (.t 7))), (.op (some 25) none (.call 64 [(.t
  24)])), (.op (some 26) none (.bin .quo (.t 23) (.t 25))), (.op (some 27) none (.bin .rem (.t 26) (.c (.int .i64 2)))), (.op (some 28) none (.bsl 3 1 [(.int .i64 0)]
  [(0, (1, (.t 27)))])), (.op (some 29) none (.app 3 1 8 (.t 22) (.t 28))), (.op (some 5) none (.mv (.t 29)))])) (.reg [(.op (some 20) none (.mv (.t 7))), (.op (some 21)
  none (.bin .sub (.t 20) (.c (.int .i64 1)))), (.op (some 7) none (.mv (.t 21)))])))
def s37_0 (S : Sys) (e : Fe) (H : Heap) (Q : Kx) : Prop := run S (.bin .geq (.c (e 7)) (.c (.int .i64 0))) [] H fun t19_10 H => jn (sq (fun e12 H => jn (sq (fun e14 H =>
  run S (.bin .sub (.c (e14 7)) (.c (.int .i64 1))) [] H fun t21_15 H => Q .normal (upd (upd (upd e14 20 (e14 7)) 21 t21_15) 7 t21_15) H) Q) fun Q13 => run S (.call 64
  [(.c (e12 7))]) [] H fun t25_16 H => run S (.bin .quo (.c (e12 6)) (.c t25_16)) [] H fun t26_17 H => run S (.bin .rem (.c t26_17) (.c (.int .i64 2))) [] H fun t27_18 H
  => run S (.bsl 3 1 [(.int .i64 0)] [(0, (1, (.c t27_18)))]) [] H fun t28_19 H => run S (.app 3 1 8 (.c (e12 5)) (.c t28_19)) [] H fun t29_20 H => Q13 .normal (upd (upd
  (upd (upd (upd (upd (upd (upd (upd e12 22 (e12 5)) 23 (e12 6)) 24 (e12 7)) 25 t25_16) 26 t26_17) 27 t27_18) 28 t28_19) 29 t29_20) 5 t29_20) H) Q) fun Q11 => cnd t19_10
  (fun Q21 => Q21 .normal (upd (upd e 18 (e 7)) 19 t19_10) H) (fun Q22 => Q22 (.exit 0) (upd (upd e 18 (e 7)) 19 t19_10) H) Q11
theorem h37_0 (S : Sys) (e : Fe) (H : Heap) (Q : Kx) : wpC S b37_0 e H Q = s37_0 S e H Q := by kernel_rfl
theorem l37_0 (S : Sys) {Q : Kx} (I : Nat → Fe → Heap → Prop) (d : Nat) {e0 : Fe} {H : Heap} (h0 : I d e0 H) (hr : ∀ (d : Nat) (e : Fe) (H : Heap), I d e H → s37_0 S e H
  (sq (fun e' H' => ∃ d', d' < d ∧ I d' e' H') Q)) : WL S b37_0 e0 H Q := WL_inv I d h0 fun d e H hi => (h37_0 S e H _).mpr (hr d e H hi)
theorem u37_0 (S : Sys) {Q : Kx} {e : Fe} {H : Heap} (h : s37_0 S e H (sq (fun e' H' => WL S b37_0 e' H' Q) Q)) : WL S b37_0 e H Q := WL_once ((h37_0 S e H _).mpr h)
def s37 (S : Sys) (a0 a1 : Value) (H : Heap) (R : Kv) : Prop := run S (.call 66 [(.c a0)]) [] H fun t9_1 H => run S (.iad 1 (.c t9_1) (.c a1)) [] H fun t11_2 H => run S
  (.ld (.c t11_2)) [] H fun t12_3 H => run S (.iad 1 (.c a0) (.c a1)) [] H fun t15_4 H => run S (.ld (.c t15_4)) [] H fun t16_5 H => run S (.bin .sub (.c t16_5) (.c
  (.int .i64 1))) [] H fun t17_6 H => jn (sq (fun e8 H => R (e8 5) H) (fn [(.t 4)] R)) fun Q7 => jn (blk 0 Q7) fun Q9 => WL S b37_0 (upd (upd (upd (upd (upd (upd (upd
  (upd (upd (upd (upd (upd (upd (upd (Env.get [a0, a1]) 4 (.slice none 0 0)) 5 (.slice none 0 0)) 8 a0) 9 t9_1) 10 a1) 11 t11_2) 12 t12_3) 6 t12_3) 13 a0) 14 a1) 15
  t15_4) 16 t16_5) 17 t17_6) 7 t17_6) H Q9
theorem h37 (S : Sys) (a0 a1 : Value) (H : Heap) (R : Kv) : wpC S k37.body (Env.get [a0, a1]) H (fn [(.t 4)] R) = s37 S a0 a1 H R := by kernel_rfl
theorem w37 {S : Sys} (hR : S.R 37 = none) (hF : S.F 37 = some k37) (a0 a1 : Value) {H : Heap} {R : Kv} (h : s37 S a0 a1 H R) : Wf S 37 [a0, a1] H R := Wf_sh hR hF ((h37
  S a0 a1 H R).mpr h)
def b38_0 : KCode := (.seq (.seq (.reg [(.op (some 5) none (.mv (.t 4))), (.op (some 6) none (.mv (.t 0))), (.op (some 7) none (.lenL (.t 6))), (.op (some 8) none (.bin
  .lss (.t 5) (.t 7)))]) (.cond (.t 8) .skip (.exit 0))) (.seq (.block 1 (.reg [(.op (some 11) none (.mv (.t 3))), (.op (some 12) none (.mv (.t 0))), (.op (some 13) none
  (.mv (.t 4))), (.op (some 14) none (.iad 1 (.t 12) (.t 13))), (.op (some 15) none (.ld (.t 14))), (.op (some 16) none (.cvt .u32 (.t 15))), (.op (some 17) none (.call
  67 [(.t 16), (.c (.int .i64 8))])), (.op (some 18) none (.app 3 1 8 (.t 11) (.t 17))), (.op (some 3) none (.mv (.t 18)))])) (.reg [(.op (some 9) none (.mv (.t 4))),
  (.op (some 10) none (.bin .add (.t 9) (.c (.int .i64 1)))), (.op (some 4) none (.mv (.t 10)))])))
def s38_0 (S : Sys) (e : Fe) (H : Heap) (Q : Kx) : Prop := run S (.lenL (.c (e 0))) [] H fun t7_4 H => run S (.bin .lss (.c (e 4)) (.c t7_4)) [] H fun t8_5 H => jn (sq
  (fun e7 H => jn (sq (fun e9 H => run S (.bin .add (.c (e9 4)) (.c (.int .i64 1))) [] H fun t10_10 H => Q .normal (upd (upd (upd e9 9 (e9 4)) 10 t10_10) 4 t10_10) H) Q)
  fun Q8 => run S (.iad 1 (.c (e7 0)) (.c (e7 4))) [] H fun t14_11 H => run S (.ld (.c t14_11)) [] H fun t15_12 H => run S (.cvt .u32 (.c t15_12)) [] H fun t16_13 H =>
  run S (.call 67 [(.c t16_13), (.c (.int .i64 8))]) [] H fun t17_14 H => run S (.app 3 1 8 (.c (e7 3)) (.c t17_14)) [] H fun t18_15 H => Q8 .normal (upd (upd (upd (upd
  (upd (upd (upd (upd (upd e7 11 (e7 3)) 12 (e7 0)) 13 (e7 4)) 14 t14_11) 15 t15_12) 16 t16_13) 17 t17_14) 18 t18_15) 3 t18_15) H) Q) fun Q6 => cnd t8_5 (fun Q16 => Q16
  .normal (upd (upd (upd (upd e 5 (e 4)) 6 (e 0)) 7 t7_4) 8 t8_5) H) (fun Q17 => Q17 (.exit 0) (upd (upd (upd (upd e 5 (e 4)) 6 (e 0)) 7 t7_4) 8 t8_5) H) Q6
theorem h38_0 (S : Sys) (e : Fe) (H : Heap) (Q : Kx) : wpC S b38_0 e H Q = s38_0 S e H Q := by kernel_rfl
theorem l38_0 (S : Sys) {Q : Kx} (I : Nat → Fe → Heap → Prop) (d : Nat) {e0 : Fe} {H : Heap} (h0 : I d e0 H) (hr : ∀ (d : Nat) (e : Fe) (H : Heap), I d e H → s38_0 S e H
  (sq (fun e' H' => ∃ d', d' < d ∧ I d' e' H') Q)) : WL S b38_0 e0 H Q := WL_inv I d h0 fun d e H hi => (h38_0 S e H _).mpr (hr d e H hi)
theorem u38_0 (S : Sys) {Q : Kx} {e : Fe} {H : Heap} (h : s38_0 S e H (sq (fun e' H' => WL S b38_0 e' H' Q) Q)) : WL S b38_0 e H Q := WL_once ((h38_0 S e H _).mpr h)
def s38 (S : Sys) (a0 : Value) (H : Heap) (R : Kv) : Prop := jn (sq (fun e2 H => R (e2 3) H) (fn [(.t 2)] R)) fun Q1 => jn (blk 0 Q1) fun Q3 => WL S b38_0 (upd (upd (upd
  (Env.get [a0]) 2 (.slice none 0 0)) 3 (.slice none 0 0)) 4 (.int .i64 0)) H Q3
theorem h38 (S : Sys) (a0 : Value) (H : Heap) (R : Kv) : wpC S k38.body (Env.get [a0]) H (fn [(.t 2)] R) = s38 S a0 H R := by kernel_rfl
theorem w38 {S : Sys} (hR : S.R 38 = none) (hF : S.F 38 = some k38) (a0 : Value) {H : Heap} {R : Kv} (h : s38 S a0 H R) : Wf S 38 [a0] H R := Wf_sh hR hF ((h38 S a0 H
  R).mpr h)
def b39_0 : KCode := (.seq (.seq (.reg [(.op (some 11) none (.mv (.t 5))), (.op (some 12) none (.mv (.t 1))), (.op (some 13) none (.lenL (.t 12))), (.op (some 14) none
  (.bin .lss (.t 11) (.t 13)))]) (.cond (.t 14) .skip (.exit 0))) (.seq (.block 1 (.seq (.reg [(.op (some 17) none (.mv (.t 0))), (.op (some 18) none (.mv (.t 5))), (.op
  (some 19) none (.iad 1 (.t 17) (.t 18))), (.op (some 20) none (.ld (.t 19))), (.op (some 21) none (.mv (.t 1))), (.op (some 22) none (.mv (.t 5))), (.op (some 23) none
  (.iad 1 (.t 21) (.t 22))), (.op (some 24) none (.ld (.t 23))), (.op (some 25) none (.bin .neq (.t 20) (.t 24)))]) (.cond (.t 25) (.seq (.reg [(.op (some 4) none (.mv
  (.c (.bool false))))]) .ret) .skip))) (.reg [(.op (some 15) none (.mv (.t 5))), (.op (some 16) none (.bin .add (.t 15) (.c (.int .i64 1)))), (.op (some 5) none (.mv
  (.t 16)))])))
def s39_0 (S : Sys) (e : Fe) (H : Heap) (Q : Kx) : Prop := run S (.lenL (.c (e 1))) [] H fun t13_11 H => run S (.bin .lss (.c (e 5)) (.c t13_11)) [] H fun t14_12 H => jn
  (sq (fun e14 H => jn (sq (fun e16 H => run S (.bin .add (.c (e16 5)) (.c (.int .i64 1))) [] H fun t16_17 H => Q .normal (upd (upd (upd e16 15 (e16 5)) 16 t16_17) 5
  t16_17) H) Q) fun Q15 => run S (.iad 1 (.c (e14 0)) (.c (e14 5))) [] H fun t19_18 H => run S (.ld (.c t19_18)) [] H fun t20_19 H => run S (.iad 1 (.c (e14 1)) (.c (e14
  5))) [] H fun t23_20 H => run S (.ld (.c t23_20)) [] H fun t24_21 H => run S (.bin .neq (.c t20_19) (.c t24_21)) [] H fun t25_22 H => jn (blk 1 Q15) fun Q23 => cnd
  t25_22 (fun Q24 => Q24 .ret (upd (upd (upd (upd (upd (upd (upd (upd (upd (upd e14 17 (e14 0)) 18 (e14 5)) 19 t19_18) 20 t20_19) 21 (e14 1)) 22 (e14 5)) 23 t23_20) 24
  t24_21) 25 t25_22) 4 (.bool false)) H) (fun Q25 => Q25 .normal (upd (upd (upd (upd (upd (upd (upd (upd (upd e14 17 (e14 0)) 18 (e14 5)) 19 t19_18) 20 t20_19) 21 (e14
  1)) 22 (e14 5)) 23 t23_20) 24 t24_21) 25 t25_22) H) Q23) Q) fun Q13 => cnd t14_12 (fun Q26 => Q26 .normal (upd (upd (upd (upd e 11 (e 5)) 12 (e 1)) 13 t13_11) 14
  t14_12) H) (fun Q27 => Q27 (.exit 0) (upd (upd (upd (upd e 11 (e 5)) 12 (e 1)) 13 t13_11) 14 t14_12) H) Q13
theorem h39_0 (S : Sys) (e : Fe) (H : Heap) (Q : Kx) : wpC S b39_0 e H Q = s39_0 S e H Q := by kernel_rfl
theorem l39_0 (S : Sys) {Q : Kx} (I : Nat → Fe → Heap → Prop) (d : Nat) {e0 : Fe} {H : Heap} (h0 : I d e0 H) (hr : ∀ (d : Nat) (e : Fe) (H : Heap), I d e H → s39_0 S e H
  (sq (fun e' H' => ∃ d', d' < d ∧ I d' e' H') Q)) : WL S b39_0 e0 H Q := WL_inv I d h0 fun d e H hi => (h39_0 S e H _).mpr (hr d e H hi)
theorem u39_0 (S : Sys) {Q : Kx} {e : Fe} {H : Heap} (h : s39_0 S e H (sq (fun e' H' => WL S b39_0 e' H' Q) Q)) : WL S b39_0 e H Q := WL_once ((h39_0 S e H _).mpr h)
def s39 (S : Sys) (a0 a1 : Value) (H : Heap) (R : Kv) : Prop := run S (.lenL (.c a0)) [] H fun t7_1 H => run S (.lenL (.c a1)) [] H fun t9_2 H => run S (.bin .lss (.c
  t7_1) (.c t9_2)) [] H fun t10_3 H => jn (sq (fun e5 H => jn (sq (fun e7 H => R (.bool true) H) (fn [(.t 4)] R)) fun Q6 => jn (blk 0 Q6) fun Q8 => WL S b39_0 (upd e5 5
  (.int .i64 0)) H Q8) (fn [(.t 4)] R)) fun Q4 => cnd t10_3 (fun Q9 => Q9 .ret (upd (upd (upd (upd (upd (upd (upd (Env.get [a0, a1]) 4 (.bool false)) 6 a0) 7 t7_1) 8 a1)
  9 t9_2) 10 t10_3) 4 (.bool false)) H) (fun Q10 => Q10 .normal (upd (upd (upd (upd (upd (upd (Env.get [a0, a1]) 4 (.bool false)) 6 a0) 7 t7_1) 8 a1) 9 t9_2) 10 t10_3)
  H) Q4
theorem h39 (S : Sys) (a0 a1 : Value) (H : Heap) (R : Kv) : wpC S k39.body (Env.get [a0, a1]) H (fn [(.t 4)] R) = s39 S a0 a1 H R := by kernel_rfl
theorem w39 {S : Sys} (hR : S.R 39 = none) (hF : S.F 39 = some k39) (a0 a1 : Value) {H : Heap} {R : Kv} (h : s39 S a0 a1 H R) : Wf S 39 [a0, a1] H R := Wf_sh hR hF ((h39
  S a0 a1 H R).mpr h)
def s40 (S : Sys) (a0 : Value) (H : Heap) (R : Kv) : Prop := run S (.mx (.c a0) [(.c (.int .i64 0))]) [] H fun t4_1 H => run S (.mn (.c t4_1) [(.c (.int .i64 8))]) [] H
  fun t5_2 H => R t5_2 H
theorem h40 (S : Sys) (a0 : Value) (H : Heap) (R : Kv) : wpC S k40.body (Env.get [a0]) H (fn [(.t 2)] R) = s40 S a0 H R := by kernel_rfl
theorem w40 {S : Sys} (hR : S.R 40 = none) (hF : S.F 40 = some k40) (a0 : Value) {H : Heap} {R : Kv} (h : s40 S a0 H R) : Wf S 40 [a0] H R := Wf_sh hR hF ((h40 S a0 H
  R).mpr h)
def b41_0 : KCode := (.seq (.reg [(.op (some 8) none (.bin .lss (.t 7) (.c (.int .i64 10))))]) (.seq (.cond (.t 8) .skip (.exit 0)) (.seq (.block 1 (.seq (.reg [(.op
  (some 9) none (.mv (.t 7))), (.op (some 4) none (.mv (.t 9)))]) (.seq (.reg [(.op (some 10) none (.mv (.t 0))), (.op (some 11) none (.call 24 [(.t 10), (.c (.int .i64
  1))])), (.op (some 5) none (.mv (.t 11)))]) (.seq (.seq (.reg [(.op (some 12) none (.mv (.t 5))), (.op (some 13) none (.bin .eql (.t 12) (.c (.string (bs [])))))])
  (.cond (.t 13) (.seq (.reg [(.op (some 2) none (.mv (.c (.int .u64 0))))]) .ret) .skip)) (.seq (.reg [(.op (some 14) none (.mv (.t 5))), (.op (some 15) none (.idS (.t
  14) (.c (.int .i64 0)))), (.op (some 16) none (.cvt .u64 (.t 15))), (.op (some 6) none (.mv (.t 16)))]) (.seq (.seq (.reg [(.op (some 17) none (.mv (.t 4))), (.op
  (some 18) none (.bin .eql (.t 17) (.c (.int .i64 9)))), (.op (some 19) none (.mv (.t 18))), (.op (some 20) (some (19, true)) (.mv (.t 6))), (.op (some 21) (some (19,
  true)) (.bin .gtr (.t 20) (.c (.int .u64 1)))), (.op (some 22) none (.pick (.t 19) (.t 21) (.c (.bool false)))), (.op (some 23) none (.mv (.t 22))), (.op (some 24)
  (some (23, false)) (.mv (.t 4))), (.op (some 25) (some (23, false)) (.bin .gtr (.t 24) (.c (.int .i64 0)))), (.op (some 26) (some (23, false)) (.mv (.t 25))), (.op
  (some 27) (some (26, true)) (.mv (.t 6))), (.op (some 28) (some (26, true)) (.bin .eql (.t 27) (.c (.int .u64 0)))), (.op (some 29) (some (23, false)) (.pick (.t 26)
  (.t 28) (.c (.bool false)))), (.op (some 30) none (.pick (.t 23) (.c (.bool true)) (.t 29)))]) (.cond (.t 30) (.exit 0) .skip)) (.seq (.reg [(.op (some 31) none (.mv
  (.t 3))), (.op (some 32) none (.mv (.t 6))), (.op (some 33) none (.bin .and (.t 32) (.c (.int .u64 127)))), (.op (some 34) none (.mv (.t 4))), (.op (some 35) none
  (.bin .mul (.c (.int .i64 7)) (.t 34))), (.op (some 36) none (.bin .shl (.t 33) (.t 35))), (.op (some 37) none (.bin .or (.t 31) (.t 36))), (.op (some 3) none (.mv (.t
  37)))]) (.seq (.reg [(.op (some 38) none (.mv (.t 6))), (.op (some 39) none (.bin .lss (.t 38) (.c (.int .u64 128))))]) (.cond (.t 39) (.seq (.reg [(.op (some 40) none
  (.mv (.t 3))), (.op (some 2) none (.mv (.t 40)))]) .ret) .skip))))))))) (.reg [(.op (some 41) none (.bin .add (.t 7) (.c (.int .i64 1)))), (.op (some 7) none (.mv (.t
  41)))]))))
def s41_0 (S : Sys) (e : Fe) (H : Heap) (Q : Kx) : Prop := run S (.bin .lss (.c (e 7)) (.c (.int .i64 10))) [] H fun t8_5 H => jn (sq (fun e7 H => jn (sq (fun e9 H =>
  run S (.bin .add (.c (e9 7)) (.c (.int .i64 1))) [] H fun t41_10 H => Q .normal (upd (upd e9 41 t41_10) 7 t41_10) H) Q) fun Q8 => run S (.call 24 [(.c (e7 0)), (.c
  (.int .i64 1))]) [] H fun t11_11 H => run S (.bin .eql (.c t11_11) (.c (.string (bs [])))) [] H fun t13_12 H => jn (blk 1 Q8) fun Q13 => jn (sq (fun e15 H => run S
  (.idS (.c (e15 5)) (.c (.int .i64 0))) [] H fun t15_16 H => run S (.cvt .u64 (.c t15_16)) [] H fun t16_17 H => run S (.bin .eql (.c (e15 4)) (.c (.int .i64 9))) [] H
  fun t18_18 H => gd t18_18 true (run S (.mv (.c t16_17)) [] H) H fun t20_19 H => gd t18_18 true (run S (.bin .gtr (.c t20_19) (.c (.int .u64 1))) [] H) H fun t21_20 H
  => run S (.pick (.c t18_18) (.c t21_20) (.c (.bool false))) [] H fun t22_21 H => gd t22_21 false (run S (.mv (.c (e15 4))) [] H) H fun t24_22 H => gd t22_21 false (run
  S (.bin .gtr (.c t24_22) (.c (.int .i64 0))) [] H) H fun t25_23 H => gd t22_21 false (run S (.mv (.c t25_23)) [] H) H fun t26_24 H => gd t26_24 true (run S (.mv (.c
  t16_17)) [] H) H fun t27_25 H => gd t26_24 true (run S (.bin .eql (.c t27_25) (.c (.int .u64 0))) [] H) H fun t28_26 H => gd t22_21 false (run S (.pick (.c t26_24) (.c
  t28_26) (.c (.bool false))) [] H) H fun t29_27 H => run S (.pick (.c t22_21) (.c (.bool true)) (.c t29_27)) [] H fun t30_28 H => jn (sq (fun e30 H => run S (.bin .and
  (.c (e30 6)) (.c (.int .u64 127))) [] H fun t33_31 H => run S (.bin .mul (.c (.int .i64 7)) (.c (e30 4))) [] H fun t35_32 H => run S (.bin .shl (.c t33_31) (.c
  t35_32)) [] H fun t36_33 H => run S (.bin .or (.c (e30 3)) (.c t36_33)) [] H fun t37_34 H => run S (.bin .lss (.c (e30 6)) (.c (.int .u64 128))) [] H fun t39_35 H =>
  cnd t39_35 (fun Q36 => Q36 .ret (upd (upd (upd (upd (upd (upd (upd (upd (upd (upd (upd (upd e30 31 (e30 3)) 32 (e30 6)) 33 t33_31) 34 (e30 4)) 35 t35_32) 36 t36_33) 37
  t37_34) 3 t37_34) 38 (e30 6)) 39 t39_35) 40 t37_34) 2 t37_34) H) (fun Q37 => Q37 .normal (upd (upd (upd (upd (upd (upd (upd (upd (upd (upd e30 31 (e30 3)) 32 (e30 6))
  33 t33_31) 34 (e30 4)) 35 t35_32) 36 t36_33) 37 t37_34) 3 t37_34) 38 (e30 6)) 39 t39_35) H) Q13) Q13) fun Q29 => cnd t30_28 (fun Q38 => Q38 (.exit 0) (upd (upd (upd
  (upd (upd (upd (upd (upd (upd (upd (upd (upd (upd (upd (upd (upd (upd (upd e15 14 (e15 5)) 15 t15_16) 16 t16_17) 6 t16_17) 17 (e15 4)) 18 t18_18) 19 t18_18) 20 t20_19)
  21 t21_20) 22 t22_21) 23 t22_21) 24 t24_22) 25 t25_23) 26 t26_24) 27 t27_25) 28 t28_26) 29 t29_27) 30 t30_28) H) (fun Q39 => Q39 .normal (upd (upd (upd (upd (upd (upd
  (upd (upd (upd (upd (upd (upd (upd (upd (upd (upd (upd (upd e15 14 (e15 5)) 15 t15_16) 16 t16_17) 6 t16_17) 17 (e15 4)) 18 t18_18) 19 t18_18) 20 t20_19) 21 t21_20) 22
  t22_21) 23 t22_21) 24 t24_22) 25 t25_23) 26 t26_24) 27 t27_25) 28 t28_26) 29 t29_27) 30 t30_28) H) Q29) Q13) fun Q14 => cnd t13_12 (fun Q40 => Q40 .ret (upd (upd (upd
  (upd (upd (upd (upd (upd e7 9 (e7 7)) 4 (e7 7)) 10 (e7 0)) 11 t11_11) 5 t11_11) 12 t11_11) 13 t13_12) 2 (.int .u64 0)) H) (fun Q41 => Q41 .normal (upd (upd (upd (upd
  (upd (upd (upd e7 9 (e7 7)) 4 (e7 7)) 10 (e7 0)) 11 t11_11) 5 t11_11) 12 t11_11) 13 t13_12) H) Q14) Q) fun Q6 => cnd t8_5 (fun Q42 => Q42 .normal (upd e 8 t8_5) H)
  (fun Q43 => Q43 (.exit 0) (upd e 8 t8_5) H) Q6
theorem h41_0 (S : Sys) (e : Fe) (H : Heap) (Q : Kx) : wpC S b41_0 e H Q = s41_0 S e H Q := by kernel_rfl
theorem l41_0 (S : Sys) {Q : Kx} (I : Nat → Fe → Heap → Prop) (d : Nat) {e0 : Fe} {H : Heap} (h0 : I d e0 H) (hr : ∀ (d : Nat) (e : Fe) (H : Heap), I d e H → s41_0 S e H
  (sq (fun e' H' => ∃ d', d' < d ∧ I d' e' H') Q)) : WL S b41_0 e0 H Q := WL_inv I d h0 fun d e H hi => (h41_0 S e H _).mpr (hr d e H hi)
theorem u41_0 (S : Sys) {Q : Kx} {e : Fe} {H : Heap} (h : s41_0 S e H (sq (fun e' H' => WL S b41_0 e' H' Q) Q)) : WL S b41_0 e H Q := WL_once ((h41_0 S e H _).mpr h)
def s41 (S : Sys) (a0 : Value) (H : Heap) (R : Kv) : Prop := jn (sq (fun e2 H => run S (.call 42 [(.c (e2 0))]) [] H fun t43_3 H => R (.int .u64 0) H) (fn [(.t 2)] R))
  fun Q1 => jn (blk 0 Q1) fun Q4 => WL S b41_0 (upd (upd (upd (Env.get [a0]) 2 (.int .u64 0)) 3 (.int .u64 0)) 7 (.int .i64 0)) H Q4
theorem h41 (S : Sys) (a0 : Value) (H : Heap) (R : Kv) : wpC S k41.body (Env.get [a0]) H (fn [(.t 2)] R) = s41 S a0 H R := by kernel_rfl
theorem w41 {S : Sys} (hR : S.R 41 = none) (hF : S.F 41 = some k41) (a0 : Value) {H : Heap} {R : Kv} (h : s41 S a0 H R) : Wf S 41 [a0] H R := Wf_sh hR hF ((h41 S a0 H
  R).mpr h)
def s42 (S : Sys) (a0 : Value) (H : Heap) (R : Kv) : Prop := run S (.eqv .ptr true (.c a0) (.c (.pointer none))) [] H fun t3_1 H => cnd t3_1 (fun Q2 => run S (.nck (.c
  a0)) [] H fun t6_4 H => run S (.fad 0 (.c t6_4)) [] H fun t7_5 H => run S (.st (.c t7_5) (.c (.string (bs [])))) [] H fun _ H => run S (.nck (.c a0)) [] H fun t8_6 H
  => run S (.fad 1 (.c t8_6)) [] H fun t9_7 H => run S (.st (.c t9_7) (.c (.bool true))) [] H fun _ H => Q2 .normal (upd (upd (upd (upd (upd (upd (upd (upd (Env.get
  [a0]) 2 a0) 3 t3_1) 4 a0) 5 a0) 6 t6_4) 7 t7_5) 8 t8_6) 9 t9_7) H) (fun Q3 => Q3 .normal (upd (upd (Env.get [a0]) 2 a0) 3 t3_1) H) (fn [] R)
theorem h42 (S : Sys) (a0 : Value) (H : Heap) (R : Kv) : wpC S k42.body (Env.get [a0]) H (fn [] R) = s42 S a0 H R := by kernel_rfl
theorem w42 {S : Sys} (hR : S.R 42 = none) (hF : S.F 42 = some k42) (a0 : Value) {H : Heap} {R : Kv} (h : s42 S a0 H R) : Wf S 42 [a0] H R := Wf_sh hR hF ((h42 S a0 H
  R).mpr h)
def b49_0 : KCode := (.seq (.reg [(.op (some 27) none (.bin .lss (.t 26) (.t 25)))]) (.seq (.cond (.t 27) .skip (.exit 0)) (.seq (.block 1 (.seq (.reg [(.op (some 28)
  none (.iad 1 (.t 24) (.t 26))), (.op (some 29) none (.ld (.t 28))), (.op (some 8) none (.mv (.t 29)))]) (.reg [(.op (some 30) none (.mv (.t 6))), (.op (some 31) none
  (.mv (.t 8))), (.op (some 32) none (.bin .and (.t 31) (.c (.int .u8 15)))), (.op (some 33) none (.cvt .i64 (.t 32))), (.op (some 34) none (.mv (.t 8))), (.op (some 35)
  none (.bin .shr (.t 34) (.c (.int .u64 4)))), (.op (some 36) none (.cvt .i64 (.t 35))), (.op (some 37) none (.bsl 3 2 [(.int .i64 0), (.int .i64 0)] [(0, (1, (.t
  33))), (1, (1, (.t 36)))])), (.op (some 38) none (.app 3 1 8 (.t 30) (.t 37))), (.op (some 6) none (.mv (.t 38)))]))) (.reg [(.op (some 39) none (.bin .add (.t 26) (.c
  (.int .i64 1)))), (.op (some 26) none (.mv (.t 39)))]))))
def s49_0 (S : Sys) (e : Fe) (H : Heap) (Q : Kx) : Prop := run S (.bin .lss (.c (e 26)) (.c (e 25))) [] H fun t27_45 H => jn (sq (fun e47 H => jn (sq (fun e49 H => run S
  (.bin .add (.c (e49 26)) (.c (.int .i64 1))) [] H fun t39_50 H => Q .normal (upd (upd e49 39 t39_50) 26 t39_50) H) Q) fun Q48 => run S (.iad 1 (.c (e47 24)) (.c (e47
  26))) [] H fun t28_51 H => run S (.ld (.c t28_51)) [] H fun t29_52 H => run S (.bin .and (.c t29_52) (.c (.int .u8 15))) [] H fun t32_53 H => run S (.cvt .i64 (.c
  t32_53)) [] H fun t33_54 H => run S (.bin .shr (.c t29_52) (.c (.int .u64 4))) [] H fun t35_55 H => run S (.cvt .i64 (.c t35_55)) [] H fun t36_56 H => run S (.bsl 3 2
  [(.int .i64 0), (.int .i64 0)] [(0, (1, (.c t33_54))), (1, (1, (.c t36_56)))]) [] H fun t37_57 H => run S (.app 3 1 8 (.c (e47 6)) (.c t37_57)) [] H fun t38_58 H =>
  Q48 .normal (upd (upd (upd (upd (upd (upd (upd (upd (upd (upd (upd (upd (upd e47 28 t28_51) 29 t29_52) 8 t29_52) 30 (e47 6)) 31 t29_52) 32 t32_53) 33 t33_54) 34
  t29_52) 35 t35_55) 36 t36_56) 37 t37_57) 38 t38_58) 6 t38_58) H) Q) fun Q46 => cnd t27_45 (fun Q59 => Q59 .normal (upd e 27 t27_45) H) (fun Q60 => Q60 (.exit 0) (upd e
  27 t27_45) H) Q46
theorem h49_0 (S : Sys) (e : Fe) (H : Heap) (Q : Kx) : wpC S b49_0 e H Q = s49_0 S e H Q := by kernel_rfl
theorem l49_0 (S : Sys) {Q : Kx} (I : Nat → Fe → Heap → Prop) (d : Nat) {e0 : Fe} {H : Heap} (h0 : I d e0 H) (hr : ∀ (d : Nat) (e : Fe) (H : Heap), I d e H → s49_0 S e H
  (sq (fun e' H' => ∃ d', d' < d ∧ I d' e' H') Q)) : WL S b49_0 e0 H Q := WL_inv I d h0 fun d e H hi => (h49_0 S e H _).mpr (hr d e H hi)
theorem u49_0 (S : Sys) {Q : Kx} {e : Fe} {H : Heap} (h : s49_0 S e H (sq (fun e' H' => WL S b49_0 e' H' Q) Q)) : WL S b49_0 e H Q := WL_once ((h49_0 S e H _).mpr h)
def s49 (S : Sys) (a0 : Value) (H : Heap) (R : Kv) : Prop := run S (.call 21 [(.c a0), (.c (.int .i64 1))]) [] H fun t10_1 H => run S (.cvt .i64 (.c t10_1)) [] H fun
  t11_2 H => run S (.bin .add (.c t11_2) (.c (.int .i64 1))) [] H fun t12_3 H => run S (.bin .add (.c t12_3) (.c (.int .i64 1))) [] H fun t15_4 H => run S (.bin .quo (.c
  t15_4) (.c (.int .i64 2))) [] H fun t16_5 H => run S (.call 24 [(.c a0), (.c t16_5)]) [] H fun t17_6 H => run S (.call 23 [(.c a0)]) [] H fun t19_7 H => jn (sq (fun e9
  H => run S (.bin .add (.c (e9 4)) (.c (.int .i64 1))) [] H fun t21_10 H => run S (.mks 3 [(.int .i64 0)] 8 (.c (.int .i64 0)) (.c t21_10)) [] H fun t22_11 H => run S
  (.s2b 5 (.c (e9 5))) [] H fun t24_12 H => run S (.lenL (.c t24_12)) [] H fun t25_13 H => jn (sq (fun e15 H => run S (.lenL (.c (e15 6))) [] H fun t41_16 H => run S
  (.bin .gtr (.c t41_16) (.c (e15 4))) [] H fun t43_17 H => gd t43_17 true (run S (.mv (.c (e15 6))) [] H) H fun t45_18 H => gd t43_17 true (run S (.mv (.c (e15 4))) []
  H) H fun t46_19 H => gd t43_17 true (run S (.iad 1 (.c t45_18) (.c t46_19)) [] H) H fun t47_20 H => gd t43_17 true (run S (.ld (.c t47_20)) [] H) H fun t48_21 H => gd
  t43_17 true (run S (.bin .neq (.c t48_21) (.c (.int .i64 0))) [] H) H fun t49_22 H => run S (.pick (.c t43_17) (.c t49_22) (.c (.bool false))) [] H fun t50_23 H => gd
  t50_23 false (run S (.mv (.c (e15 6))) [] H) H fun t52_24 H => gd t50_23 false (run S (.mv (.c (e15 4))) [] H) H fun t53_25 H => gd t50_23 false (run S (.bin .sub (.c
  t53_25) (.c (.int .i64 1))) [] H) H fun t54_26 H => gd t50_23 false (run S (.iad 1 (.c t52_24) (.c t54_26)) [] H) H fun t55_27 H => gd t50_23 false (run S (.ld (.c
  t55_27)) [] H) H fun t56_28 H => gd t50_23 false (run S (.bin .eql (.c t56_28) (.c (.int .i64 0))) [] H) H fun t57_29 H => run S (.pick (.c t50_23) (.c (.bool true))
  (.c t57_29)) [] H fun t58_30 H => gd t58_30 false (run S (.mv (.c (e15 6))) [] H) H fun t60_31 H => gd t58_30 false (run S (.mv (.c (e15 4))) [] H) H fun t61_32 H =>
  gd t58_30 false (run S (.slc 3 1 (.c t60_31) none (some (.c t61_32))) [] H) H fun t62_33 H => gd t58_30 false (run S (.call 57 [(.c t62_33)]) [] H) H fun t63_34 H =>
  gd t58_30 false (run S (.un .not (.c t63_34)) [] H) H fun t64_35 H => run S (.pick (.c t58_30) (.c (.bool true)) (.c t64_35)) [] H fun t65_36 H => jn (sq (fun e38 H =>
  run S (.slc 3 1 (.c (e38 6)) none (some (.c (e38 4)))) [] H fun t68_39 H => R (tup [t68_39, (.bool true)]) H) (fn [(.t 2), (.t 3)] R)) fun Q37 => cnd t65_36 (fun Q40
  => Q40 .ret (upd (upd (upd (upd (upd (upd (upd (upd (upd (upd (upd (upd (upd (upd (upd (upd (upd (upd (upd (upd (upd (upd (upd (upd (upd (upd (upd (upd e15 40 (e15 6))
  41 t41_16) 42 (e15 4)) 43 t43_17) 44 t43_17) 45 t45_18) 46 t46_19) 47 t47_20) 48 t48_21) 49 t49_22) 50 t50_23) 51 t50_23) 52 t52_24) 53 t53_25) 54 t54_26) 55 t55_27)
  56 t56_28) 57 t57_29) 58 t58_30) 59 t58_30) 60 t60_31) 61 t61_32) 62 t62_33) 63 t63_34) 64 t64_35) 65 t65_36) 2 (.slice none 0 0)) 3 (.bool false)) H) (fun Q41 => Q41
  .normal (upd (upd (upd (upd (upd (upd (upd (upd (upd (upd (upd (upd (upd (upd (upd (upd (upd (upd (upd (upd (upd (upd (upd (upd (upd (upd e15 40 (e15 6)) 41 t41_16) 42
  (e15 4)) 43 t43_17) 44 t43_17) 45 t45_18) 46 t46_19) 47 t47_20) 48 t48_21) 49 t49_22) 50 t50_23) 51 t50_23) 52 t52_24) 53 t53_25) 54 t54_26) 55 t55_27) 56 t56_28) 57
  t57_29) 58 t58_30) 59 t58_30) 60 t60_31) 61 t61_32) 62 t62_33) 63 t63_34) 64 t64_35) 65 t65_36) H) Q37) (fn [(.t 2), (.t 3)] R)) fun Q14 => jn (blk 0 Q14) fun Q42 =>
  WL S b49_0 (upd (upd (upd (upd (upd (upd (upd (upd e9 20 (e9 4)) 21 t21_10) 22 t22_11) 6 t22_11) 23 (e9 5)) 24 t24_12) 25 t25_13) 26 (.int .i64 0)) H Q42) (fn [(.t 2),
  (.t 3)] R)) fun Q8 => cnd t19_7 (fun Q43 => Q43 .ret (upd (upd (upd (upd (upd (upd (upd (upd (upd (upd (upd (upd (upd (upd (upd (upd (upd (Env.get [a0]) 2 (.slice none
  0 0)) 3 (.bool false)) 9 a0) 10 t10_1) 11 t11_2) 12 t12_3) 4 t12_3) 13 a0) 14 t12_3) 15 t15_4) 16 t16_5) 17 t17_6) 5 t17_6) 18 a0) 19 t19_7) 2 (.slice none 0 0)) 3
  (.bool false)) H) (fun Q44 => Q44 .normal (upd (upd (upd (upd (upd (upd (upd (upd (upd (upd (upd (upd (upd (upd (upd (Env.get [a0]) 2 (.slice none 0 0)) 3 (.bool
  false)) 9 a0) 10 t10_1) 11 t11_2) 12 t12_3) 4 t12_3) 13 a0) 14 t12_3) 15 t15_4) 16 t16_5) 17 t17_6) 5 t17_6) 18 a0) 19 t19_7) H) Q8
theorem h49 (S : Sys) (a0 : Value) (H : Heap) (R : Kv) : wpC S k49.body (Env.get [a0]) H (fn [(.t 2), (.t 3)] R) = s49 S a0 H R := by kernel_rfl
theorem w49 {S : Sys} (hR : S.R 49 = none) (hF : S.F 49 = some k49) (a0 : Value) {H : Heap} {R : Kv} (h : s49 S a0 H R) : Wf S 49 [a0] H R := Wf_sh hR hF ((h49 S a0 H
  R).mpr h)
def s50 (S : Sys) (a0 a1 : Value) (H : Heap) (R : Kv) : Prop := run S (.call 22 [(.c a0), (.c a1)]) [] H fun t8_1 H => run S (.call 24 [(.c a0), (.c t8_1)]) [] H fun
  t9_2 H => R t9_2 H
theorem h50 (S : Sys) (a0 a1 : Value) (H : Heap) (R : Kv) : wpC S k50.body (Env.get [a0, a1]) H (fn [(.t 4)] R) = s50 S a0 a1 H R := by kernel_rfl
theorem w50 {S : Sys} (hR : S.R 50 = none) (hF : S.F 50 = some k50) (a0 a1 : Value) {H : Heap} {R : Kv} (h : s50 S a0 a1 H R) : Wf S 50 [a0, a1] H R := Wf_sh hR hF ((h50
  S a0 a1 H R).mpr h)
end Go.Proofs.YtlboioplemlneaaGreat.K
