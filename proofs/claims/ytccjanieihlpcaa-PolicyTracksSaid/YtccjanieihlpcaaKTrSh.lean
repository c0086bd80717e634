/- The functions as nested words with named values, each held against its code by the kernel. Printed by a program of this work (sh.py). -/
import Derived.Test.YtccjanieihlpcaaKPolCode
set_option maxRecDepth 100000
set_option linter.unusedVariables false
namespace Go.Proofs.Ytccjanieihlpcaa.K
open Go Go.Proofs
def b6_1 : KCode := (.seq (.reg [(.op (some 31) none (.bin .lss (.t 30) (.t 29)))]) (.seq (.cond (.t 31) .skip (.exit 0)) (.seq (.block 1 (.seq (.reg [(.op (some 32)
  none (.iad 2 (.t 28) (.t 30))), (.op (some 33) none (.ldn 2 (.t 32))), (.op (some 10) none (.alloc 51 [(.int .i64 0), (.int .i64 0)])), (.op none none (.stn 2 (.t 10)
  (.t 33)))]) (.seq (.reg [(.op (some 34) none (.iada 2 1 (.t 10) (.c (.int .i64 0)))), (.op (some 35) none (.ld (.t 34))), (.op (some 36) none (.bin .geq (.t 35) (.c
  (.int .i64 1)))), (.op (some 37) none (.mv (.t 36))), (.op (some 38) (some (37, true)) (.iada 2 1 (.t 10) (.c (.int .i64 0)))), (.op (some 39) (some (37, true)) (.ld
  (.t 38))), (.op (some 40) (some (37, true)) (.mv (.t 8))), (.op (some 41) (some (37, true)) (.lenL (.t 40))), (.op (some 42) (some (37, true)) (.bin .leq (.t 39) (.t
  41))), (.op (some 43) none (.pick (.t 37) (.t 42) (.c (.bool false)))), (.op (some 44) none (.mv (.t 43))), (.op (some 45) (some (44, true)) (.iada 2 1 (.t 10) (.c
  (.int .i64 1)))), (.op (some 46) (some (44, true)) (.ld (.t 45))), (.op (some 47) (some (44, true)) (.bin .geq (.t 46) (.c (.int .i64 0)))), (.op (some 48) none (.pick
  (.t 44) (.t 47) (.c (.bool false)))), (.op (some 49) none (.mv (.t 48))), (.op (some 50) (some (49, true)) (.iada 2 1 (.t 10) (.c (.int .i64 1)))), (.op (some 51)
  (some (49, true)) (.ld (.t 50))), (.op (some 52) (some (49, true)) (.bin .leq (.t 51) (.c (.int .i64 400)))), (.op (some 53) none (.pick (.t 49) (.t 52) (.c (.bool
  false)))), (.op (some 11) none (.mv (.t 53)))]) (.seq (.seq (.reg [(.op (some 54) none (.mv (.t 7))), (.op (some 55) none (.iada 2 1 (.t 10) (.c (.int .i64 0)))), (.op
  (some 56) none (.ld (.t 55))), (.op (some 57) none (.iada 2 1 (.t 10) (.c (.int .i64 1)))), (.op (some 58) none (.ld (.t 57))), (.op (some 59) none (.call 26 [(.t 54),
  (.t 56), (.t 58)])), (.op (some 60) none (.mv (.t 11))), (.op (some 61) none (.eqv (.s .bool) true (.t 59) (.t 60)))]) (.cond (.t 61) (.seq (.reg [(.op (some 6) none
  (.mv (.c (.bool false))))]) .ret) .skip)) (.seq (.seq (.reg [(.op (some 62) none (.mv (.t 11)))]) (.cond (.t 62) (.reg [(.op (some 63) none (.mv (.t 8))), (.op (some
  64) none (.iada 2 1 (.t 10) (.c (.int .i64 0)))), (.op (some 65) none (.ld (.t 64))), (.op (some 66) none (.bin .sub (.t 65) (.c (.int .i64 1)))), (.op (some 67) none
  (.iada 2 1 (.t 10) (.c (.int .i64 1)))), (.op (some 68) none (.ld (.t 67))), (.op (some 69) none (.iad 1 (.t 63) (.t 66))), (.op none none (.st (.t 69) (.t 68)))])
  .skip)) (.seq (.reg [(.op (some 70) none (.mv (.t 7))), (.op (some 71) none (.iada 2 1 (.t 10) (.c (.int .i64 0)))), (.op (some 72) none (.ld (.t 71))), (.op (some 73)
  none (.mv (.t 2))), (.op (some 75) none (.mv (.t 8))), (.op (some 76) none (.iada 2 1 (.t 10) (.c (.int .i64 0)))), (.op (some 77) none (.ld (.t 76))), (.op (some 78)
  none (.mv (.t 2))), (.op (some 74) none (.call 27 [(.t 70), (.t 72), (.t 73)])), (.chk 77 none (.ld (.t 76))), (.op (some 79) none (.call 28 [(.t 75), (.t 77), (.t
  78)])), (.op (some 80) none (.bin .neq (.t 74) (.t 79)))]) (.cond (.t 80) (.seq (.reg [(.op (some 6) none (.mv (.c (.bool false))))]) .ret) .skip))))))) (.reg [(.op
  (some 81) none (.bin .add (.t 30) (.c (.int .i64 1)))), (.op (some 30) none (.mv (.t 81)))]))))
def s6_1 (S : Sys) (e : Fe) (H : Heap) (Q : Kx) : Prop := run S (.bin .lss (.c (e 30)) (.c (e 29))) [] H fun t31_73 H => jn (sq (fun e75 H => jn (sq (fun e77 H => run S
  (.bin .add (.c (e77 30)) (.c (.int .i64 1))) [] H fun t81_78 H => Q .normal (upd (upd e77 81 t81_78) 30 t81_78) H) Q) fun Q76 => run S (.iad 2 (.c (e75 28)) (.c (e75
  30))) [] H fun t32_79 H => run S (.ldn 2 (.c t32_79)) [] H fun t33_80 H => run S (.alloc 51 [(.int .i64 0), (.int .i64 0)]) [] H fun t10_81 H => run S (.stn 2 (.c
  t10_81) (.c t33_80)) [] H fun _ H => run S (.iada 2 1 (.c t10_81) (.c (.int .i64 0))) [] H fun t34_82 H => run S (.ld (.c t34_82)) [] H fun t35_83 H => run S (.bin
  .geq (.c t35_83) (.c (.int .i64 1))) [] H fun t36_84 H => gd t36_84 true (run S (.iada 2 1 (.c t10_81) (.c (.int .i64 0))) [] H) H fun t38_85 H => gd t36_84 true (run
  S (.ld (.c t38_85)) [] H) H fun t39_86 H => gd t36_84 true (run S (.mv (.c (e75 8))) [] H) H fun t40_87 H => gd t36_84 true (run S (.lenL (.c t40_87)) [] H) H fun
  t41_88 H => gd t36_84 true (run S (.bin .leq (.c t39_86) (.c t41_88)) [] H) H fun t42_89 H => run S (.pick (.c t36_84) (.c t42_89) (.c (.bool false))) [] H fun t43_90
  H => gd t43_90 true (run S (.iada 2 1 (.c t10_81) (.c (.int .i64 1))) [] H) H fun t45_91 H => gd t43_90 true (run S (.ld (.c t45_91)) [] H) H fun t46_92 H => gd t43_90
  true (run S (.bin .geq (.c t46_92) (.c (.int .i64 0))) [] H) H fun t47_93 H => run S (.pick (.c t43_90) (.c t47_93) (.c (.bool false))) [] H fun t48_94 H => gd t48_94
  true (run S (.iada 2 1 (.c t10_81) (.c (.int .i64 1))) [] H) H fun t50_95 H => gd t48_94 true (run S (.ld (.c t50_95)) [] H) H fun t51_96 H => gd t48_94 true (run S
  (.bin .leq (.c t51_96) (.c (.int .i64 400))) [] H) H fun t52_97 H => run S (.pick (.c t48_94) (.c t52_97) (.c (.bool false))) [] H fun t53_98 H => run S (.iada 2 1 (.c
  t10_81) (.c (.int .i64 0))) [] H fun t55_99 H => run S (.ld (.c t55_99)) [] H fun t56_100 H => run S (.iada 2 1 (.c t10_81) (.c (.int .i64 1))) [] H fun t57_101 H =>
  run S (.ld (.c t57_101)) [] H fun t58_102 H => run S (.call 26 [(.c (e75 7)), (.c t56_100), (.c t58_102)]) [] H fun t59_103 H => run S (.eqv (.s .bool) true (.c
  t59_103) (.c t53_98)) [] H fun t61_104 H => jn (blk 1 Q76) fun Q105 => jn (sq (fun e107 H => jn (sq (fun e109 H => run S (.iada 2 1 (.c (e109 10)) (.c (.int .i64 0)))
  [] H fun t71_110 H => run S (.ld (.c t71_110)) [] H fun t72_111 H => run S (.iada 2 1 (.c (e109 10)) (.c (.int .i64 0))) [] H fun t76_112 H => run S (.ld (.c t76_112))
  [] H fun t77_113 H => run S (.call 27 [(.c (e109 7)), (.c t72_111), (.c (e109 2))]) [] H fun t74_114 H => ck (kop (.ld (.c t76_112)) [] H) t77_113 (run S (.call 28
  [(.c (e109 8)), (.c t77_113), (.c (e109 2))]) [] H fun t79_115 H => run S (.bin .neq (.c t74_114) (.c t79_115)) [] H fun t80_116 H => cnd t80_116 (fun Q117 => Q117
  .ret (upd (upd (upd (upd (upd (upd (upd (upd (upd (upd (upd (upd e109 70 (e109 7)) 71 t71_110) 72 t72_111) 73 (e109 2)) 75 (e109 8)) 76 t76_112) 77 t77_113) 78 (e109
  2)) 74 t74_114) 79 t79_115) 80 t80_116) 6 (.bool false)) H) (fun Q118 => Q118 .normal (upd (upd (upd (upd (upd (upd (upd (upd (upd (upd (upd e109 70 (e109 7)) 71
  t71_110) 72 t72_111) 73 (e109 2)) 75 (e109 8)) 76 t76_112) 77 t77_113) 78 (e109 2)) 74 t74_114) 79 t79_115) 80 t80_116) H) Q105)) Q105) fun Q108 => cnd (e107 11) (fun
  Q119 => run S (.iada 2 1 (.c (e107 10)) (.c (.int .i64 0))) [] H fun t64_121 H => run S (.ld (.c t64_121)) [] H fun t65_122 H => run S (.bin .sub (.c t65_122) (.c
  (.int .i64 1))) [] H fun t66_123 H => run S (.iada 2 1 (.c (e107 10)) (.c (.int .i64 1))) [] H fun t67_124 H => run S (.ld (.c t67_124)) [] H fun t68_125 H => run S
  (.iad 1 (.c (e107 8)) (.c t66_123)) [] H fun t69_126 H => run S (.st (.c t69_126) (.c t68_125)) [] H fun _ H => Q119 .normal (upd (upd (upd (upd (upd (upd (upd (upd
  e107 62 (e107 11)) 63 (e107 8)) 64 t64_121) 65 t65_122) 66 t66_123) 67 t67_124) 68 t68_125) 69 t69_126) H) (fun Q120 => Q120 .normal (upd e107 62 (e107 11)) H) Q108)
  Q105) fun Q106 => cnd t61_104 (fun Q127 => Q127 .ret (upd (upd (upd (upd (upd (upd (upd (upd (upd (upd (upd (upd (upd (upd (upd (upd (upd (upd (upd (upd (upd (upd (upd
  (upd (upd (upd (upd (upd (upd (upd (upd (upd (upd e75 32 t32_79) 33 t33_80) 10 t10_81) 34 t34_82) 35 t35_83) 36 t36_84) 37 t36_84) 38 t38_85) 39 t39_86) 40 t40_87) 41
  t41_88) 42 t42_89) 43 t43_90) 44 t43_90) 45 t45_91) 46 t46_92) 47 t47_93) 48 t48_94) 49 t48_94) 50 t50_95) 51 t51_96) 52 t52_97) 53 t53_98) 11 t53_98) 54 (e75 7)) 55
  t55_99) 56 t56_100) 57 t57_101) 58 t58_102) 59 t59_103) 60 t53_98) 61 t61_104) 6 (.bool false)) H) (fun Q128 => Q128 .normal (upd (upd (upd (upd (upd (upd (upd (upd
  (upd (upd (upd (upd (upd (upd (upd (upd (upd (upd (upd (upd (upd (upd (upd (upd (upd (upd (upd (upd (upd (upd (upd (upd e75 32 t32_79) 33 t33_80) 10 t10_81) 34 t34_82)
  35 t35_83) 36 t36_84) 37 t36_84) 38 t38_85) 39 t39_86) 40 t40_87) 41 t41_88) 42 t42_89) 43 t43_90) 44 t43_90) 45 t45_91) 46 t46_92) 47 t47_93) 48 t48_94) 49 t48_94) 50
  t50_95) 51 t51_96) 52 t52_97) 53 t53_98) 11 t53_98) 54 (e75 7)) 55 t55_99) 56 t56_100) 57 t57_101) 58 t58_102) 59 t59_103) 60 t53_98) 61 t61_104) H) Q106) Q) fun Q74
  => cnd t31_73 (fun Q129 => Q129 .normal (upd e 31 t31_73) H) (fun Q130 => Q130 (.exit 0) (upd e 31 t31_73) H) Q74
theorem h6_1 (S : Sys) (e : Fe) (H : Heap) (Q : Kx) : wpC S b6_1 e H Q = s6_1 S e H Q := by kernel_rfl
theorem l6_1 (S : Sys) {Q : Kx} (I : Nat → Fe → Heap → Prop) (d : Nat) {e0 : Fe} {H : Heap} (h0 : I d e0 H) (hr : ∀ (d : Nat) (e : Fe) (H : Heap), I d e H → s6_1 S e H
  (sq (fun e' H' => ∃ d', d' < d ∧ I d' e' H') Q)) : WL S b6_1 e0 H Q := WL_inv I d h0 fun d e H hi => (h6_1 S e H _).mpr (hr d e H hi)
theorem u6_1 (S : Sys) {Q : Kx} {e : Fe} {H : Heap} (h : s6_1 S e H (sq (fun e' H' => WL S b6_1 e' H' Q) Q)) : WL S b6_1 e H Q := WL_once ((h6_1 S e H _).mpr h)
def b6_0 : KCode := (.seq (.reg [(.op (some 91) none (.bin .lss (.t 90) (.t 89)))]) (.seq (.cond (.t 91) .skip (.exit 2)) (.seq (.block 3 (.seq (.reg [(.op (some 92)
  none (.mv (.t 90))), (.op (some 93) none (.iad 1 (.t 88) (.t 90))), (.op (some 94) none (.ld (.t 93))), (.op (some 14) none (.mv (.t 92))), (.op (some 15) none (.mv
  (.t 94)))]) (.seq (.reg [(.op (some 95) none (.mv (.t 12))), (.op (some 96) none (.mv (.t 15))), (.op (some 97) none (.mn (.t 95) [(.t 96)])), (.op (some 98) none (.mv
  (.t 13))), (.op (some 99) none (.mv (.t 15))), (.op (some 100) none (.mx (.t 98) [(.t 99)])), (.op (some 12) none (.mv (.t 97))), (.op (some 13) none (.mv (.t 100)))])
  (.seq (.reg [(.op (some 101) none (.mv (.t 7))), (.op (some 102) none (.mv (.t 14))), (.op (some 103) none (.bin .add (.t 102) (.c (.int .i64 1)))), (.op (some 104)
  none (.call 29 [(.t 101), (.t 103)])), (.op (some 105) none (.mv (.t 15))), (.op (some 106) none (.bin .neq (.t 104) (.t 105)))]) (.cond (.t 106) (.seq (.reg [(.op
  (some 6) none (.mv (.c (.bool false))))]) .ret) .skip))))) (.reg [(.op (some 107) none (.bin .add (.t 90) (.c (.int .i64 1)))), (.op (some 90) none (.mv (.t 107)))]))))
def s6_0 (S : Sys) (e : Fe) (H : Heap) (Q : Kx) : Prop := run S (.bin .lss (.c (e 90)) (.c (e 89))) [] H fun t91_55 H => jn (sq (fun e57 H => jn (sq (fun e59 H => run S
  (.bin .add (.c (e59 90)) (.c (.int .i64 1))) [] H fun t107_60 H => Q .normal (upd (upd e59 107 t107_60) 90 t107_60) H) Q) fun Q58 => run S (.iad 1 (.c (e57 88)) (.c
  (e57 90))) [] H fun t93_61 H => run S (.ld (.c t93_61)) [] H fun t94_62 H => run S (.mn (.c (e57 12)) [(.c t94_62)]) [] H fun t97_63 H => run S (.mx (.c (e57 13)) [(.c
  t94_62)]) [] H fun t100_64 H => run S (.bin .add (.c (e57 90)) (.c (.int .i64 1))) [] H fun t103_65 H => run S (.call 29 [(.c (e57 7)), (.c t103_65)]) [] H fun t104_66
  H => run S (.bin .neq (.c t104_66) (.c t94_62)) [] H fun t106_67 H => jn (blk 3 Q58) fun Q68 => cnd t106_67 (fun Q69 => Q69 .ret (upd (upd (upd (upd (upd (upd (upd
  (upd (upd (upd (upd (upd (upd (upd (upd (upd (upd (upd (upd (upd e57 92 (e57 90)) 93 t93_61) 94 t94_62) 14 (e57 90)) 15 t94_62) 95 (e57 12)) 96 t94_62) 97 t97_63) 98
  (e57 13)) 99 t94_62) 100 t100_64) 12 t97_63) 13 t100_64) 101 (e57 7)) 102 (e57 90)) 103 t103_65) 104 t104_66) 105 t94_62) 106 t106_67) 6 (.bool false)) H) (fun Q70 =>
  Q70 .normal (upd (upd (upd (upd (upd (upd (upd (upd (upd (upd (upd (upd (upd (upd (upd (upd (upd (upd (upd e57 92 (e57 90)) 93 t93_61) 94 t94_62) 14 (e57 90)) 15
  t94_62) 95 (e57 12)) 96 t94_62) 97 t97_63) 98 (e57 13)) 99 t94_62) 100 t100_64) 12 t97_63) 13 t100_64) 101 (e57 7)) 102 (e57 90)) 103 t103_65) 104 t104_66) 105 t94_62)
  106 t106_67) H) Q68) Q) fun Q56 => cnd t91_55 (fun Q71 => Q71 .normal (upd e 91 t91_55) H) (fun Q72 => Q72 (.exit 2) (upd e 91 t91_55) H) Q56
theorem h6_0 (S : Sys) (e : Fe) (H : Heap) (Q : Kx) : wpC S b6_0 e H Q = s6_0 S e H Q := by kernel_rfl
theorem l6_0 (S : Sys) {Q : Kx} (I : Nat → Fe → Heap → Prop) (d : Nat) {e0 : Fe} {H : Heap} (h0 : I d e0 H) (hr : ∀ (d : Nat) (e : Fe) (H : Heap), I d e H → s6_0 S e H
  (sq (fun e' H' => ∃ d', d' < d ∧ I d' e' H') Q)) : WL S b6_0 e0 H Q := WL_inv I d h0 fun d e H hi => (h6_0 S e H _).mpr (hr d e H hi)
theorem u6_0 (S : Sys) {Q : Kx} {e : Fe} {H : Heap} (h : s6_0 S e H (sq (fun e' H' => WL S b6_0 e' H' Q) Q)) : WL S b6_0 e H Q := WL_once ((h6_0 S e H _).mpr h)
def s6 (S : Sys) (a0 a1 a2 : Value) (H : Heap) (R : Kv) : Prop := run S (.call 24 []) [] H fun t17_1 H => run S (.un .not (.c t17_1)) [] H fun t18_2 H => jn (sq (fun e4
  H => run S (.lenL (.c (e4 1))) [] H fun t20_5 H => run S (.bin .gtr (.c t20_5) (.c (.int .i64 60))) [] H fun t21_6 H => jn (sq (fun e8 H => run S (.call 25 [(.c (e8
  0))]) [] H fun t23_9 H => run S (.mx (.c (e8 0)) [(.c (.int .i64 1))]) [] H fun t25_10 H => run S (.mn (.c t25_10) [(.c (.int .i64 16))]) [] H fun t26_11 H => run S
  (.mks 3 [(.int .i64 0)] 8 (.c t26_11) (.c t26_11)) [] H fun t27_12 H => run S (.lenL (.c (e8 1))) [] H fun t29_13 H => jn (sq (fun e15 H => run S (.iad 1 (.c (e15 8))
  (.c (.int .i64 0))) [] H fun t83_16 H => run S (.ld (.c t83_16)) [] H fun t84_17 H => run S (.iad 1 (.c (e15 8)) (.c (.int .i64 0))) [] H fun t86_18 H => run S (.ld
  (.c t86_18)) [] H fun t87_19 H => run S (.lenL (.c (e15 8))) [] H fun t89_20 H => jn (sq (fun e22 H => run S (.mn (.c (e22 2)) [(.c (.int .i64 400))]) [] H fun t109_23
  H => run S (.call 30 [(.c (e22 7))]) [] H fun t111_24 H => run S (.lenL (.c (e22 8))) [] H fun t113_25 H => run S (.bin .eql (.c t111_24) (.c t113_25)) [] H fun
  t114_26 H => gd t114_26 true (run S (.mv (.c (e22 7))) [] H) H fun t116_27 H => gd t114_26 true (run S (.call 31 [(.c t116_27)]) [] H) H fun t117_28 H => gd t114_26
  true (run S (.mv (.c (e22 12))) [] H) H fun t118_29 H => gd t114_26 true (run S (.bin .eql (.c t117_28) (.c t118_29)) [] H) H fun t119_30 H => run S (.pick (.c
  t114_26) (.c t119_30) (.c (.bool false))) [] H fun t120_31 H => gd t120_31 true (run S (.mv (.c (e22 7))) [] H) H fun t122_32 H => gd t120_31 true (run S (.call 32
  [(.c t122_32)]) [] H) H fun t123_33 H => gd t120_31 true (run S (.mv (.c (e22 13))) [] H) H fun t124_34 H => gd t120_31 true (run S (.bin .eql (.c t123_33) (.c
  t124_34)) [] H) H fun t125_35 H => run S (.pick (.c t120_31) (.c t125_35) (.c (.bool false))) [] H fun t126_36 H => gd t126_36 true (run S (.mv (.c (e22 7))) [] H) H
  fun t128_37 H => gd t126_36 true (run S (.mv (.c t109_23)) [] H) H fun t129_38 H => gd t126_36 true (run S (.call 34 [(.c t128_37), (.c t129_38)]) [] H) H fun t130_39
  H => gd t126_36 true (run S (.mv (.c (e22 8))) [] H) H fun t131_40 H => gd t126_36 true (run S (.mv (.c t109_23)) [] H) H fun t132_41 H => gd t126_36 true (run S
  (.call 35 [(.c t131_40), (.c t132_41)]) [] H) H fun t133_42 H => gd t126_36 true (run S (.call 33 [(.c t130_39), (.c t133_42)]) [] H) H fun t134_43 H => run S (.pick
  (.c t126_36) (.c t134_43) (.c (.bool false))) [] H fun t135_44 H => gd t135_44 true (run S (.mv (.c (e22 7))) [] H) H fun t137_45 H => gd t135_44 true (run S (.call 29
  [(.c t137_45), (.c (.int .i64 0))]) [] H) H fun t138_46 H => gd t135_44 true (run S (.bin .eql (.c t138_46) (.c (.int .i64 0))) [] H) H fun t139_47 H => run S (.pick
  (.c t135_44) (.c t139_47) (.c (.bool false))) [] H fun t140_48 H => R t140_48 H) (fn [(.t 6)] R)) fun Q21 => jn (blk 2 Q21) fun Q49 => WL S b6_0 (upd (upd (upd (upd
  (upd (upd (upd (upd (upd (upd (upd e15 82 (e15 8)) 83 t83_16) 84 t84_17) 85 (e15 8)) 86 t86_18) 87 t87_19) 12 t84_17) 13 t87_19) 88 (e15 8)) 89 t89_20) 90 (.int .i64
  0)) H Q49) (fn [(.t 6)] R)) fun Q14 => jn (blk 0 Q14) fun Q50 => WL S b6_1 (upd (upd (upd (upd (upd (upd (upd (upd (upd (upd (upd e8 22 (e8 0)) 23 t23_9) 7 t23_9) 24
  (e8 0)) 25 t25_10) 26 t26_11) 27 t27_12) 8 t27_12) 28 (e8 1)) 29 t29_13) 30 (.int .i64 0)) H Q50) (fn [(.t 6)] R)) fun Q7 => cnd t21_6 (fun Q51 => Q51 .ret (upd (upd
  (upd (upd e4 19 (e4 1)) 20 t20_5) 21 t21_6) 6 (.bool true)) H) (fun Q52 => Q52 .normal (upd (upd (upd e4 19 (e4 1)) 20 t20_5) 21 t21_6) H) Q7) (fn [(.t 6)] R)) fun Q3
  => cnd t18_2 (fun Q53 => Q53 .ret (upd (upd (upd (upd (Env.get [a0, a1, a2]) 6 (.bool false)) 17 t17_1) 18 t18_2) 6 (.bool false)) H) (fun Q54 => Q54 .normal (upd (upd
  (upd (Env.get [a0, a1, a2]) 6 (.bool false)) 17 t17_1) 18 t18_2) H) Q3
theorem h6 (S : Sys) (a0 a1 a2 : Value) (H : Heap) (R : Kv) : wpC S k6.body (Env.get [a0, a1, a2]) H (fn [(.t 6)] R) = s6 S a0 a1 a2 H R := by kernel_rfl
theorem w6 {S : Sys} (hR : S.R 6 = none) (hF : S.F 6 = some k6) (a0 a1 a2 : Value) {H : Heap} {R : Kv} (h : s6 S a0 a1 a2 H R) : Wf S 6 [a0, a1, a2] H R := Wf_sh hR hF
  ((h6 S a0 a1 a2 H R).mpr h)
def s25 (S : Sys) (a0 : Value) (H : Heap) (R : Kv) : Prop := run S (.mx (.c a0) [(.c (.int .i64 1))]) [] H fun t4_1 H => run S (.mn (.c t4_1) [(.c (.int .i64 16))]) [] H
  fun t5_2 H => run S (.mks 3 [(.int .i64 0)] 8 (.c t5_2) (.c t5_2)) [] H fun t6_3 H => run S (.build [(.slice none 0 0)] [(0, (1, (.c t6_3)))]) [] H fun t7_4 H => run S
  (.box 98 (.c t7_4)) [] H fun t8_5 H => R t8_5 H
theorem h25 (S : Sys) (a0 : Value) (H : Heap) (R : Kv) : wpC S k25.body (Env.get [a0]) H (fn [(.t 2)] R) = s25 S a0 H R := by kernel_rfl
theorem w25 {S : Sys} (hR : S.R 25 = none) (hF : S.F 25 = some k25) (a0 : Value) {H : Heap} {R : Kv} (h : s25 S a0 H R) : Wf S 25 [a0] H R := Wf_sh hR hF ((h25 S a0 H
  R).mpr h)
def s29 (S : Sys) (a0 a1 : Value) (H : Heap) (R : Kv) : Prop := run S (.call 62 [(.c a0), (.c a1)]) [] H fun t7_1 H => run S (.un .not (.c t7_1)) [] H fun t8_2 H => jn
  (sq (fun e4 H => run S (.nck (.c (e4 0))) [] H fun t10_5 H => run S (.fad 0 (.c t10_5)) [] H fun t11_6 H => run S (.ld (.c t11_6)) [] H fun t12_7 H => run S (.bin .sub
  (.c (e4 1)) (.c (.int .i64 1))) [] H fun t14_8 H => run S (.iad 1 (.c t12_7) (.c t14_8)) [] H fun t15_9 H => run S (.ld (.c t15_9)) [] H fun t16_10 H => R t16_10 H)
  (fn [(.t 4)] R)) fun Q3 => cnd t8_2 (fun Q11 => Q11 .ret (upd (upd (upd (upd (upd (upd (Env.get [a0, a1]) 4 (.int .i64 0)) 5 a0) 6 a1) 7 t7_1) 8 t8_2) 4 (.int .i64 0))
  H) (fun Q12 => Q12 .normal (upd (upd (upd (upd (upd (Env.get [a0, a1]) 4 (.int .i64 0)) 5 a0) 6 a1) 7 t7_1) 8 t8_2) H) Q3
theorem h29 (S : Sys) (a0 a1 : Value) (H : Heap) (R : Kv) : wpC S k29.body (Env.get [a0, a1]) H (fn [(.t 4)] R) = s29 S a0 a1 H R := by kernel_rfl
theorem w29 {S : Sys} (hR : S.R 29 = none) (hF : S.F 29 = some k29) (a0 a1 : Value) {H : Heap} {R : Kv} (h : s29 S a0 a1 H R) : Wf S 29 [a0, a1] H R := Wf_sh hR hF ((h29
  S a0 a1 H R).mpr h)
def b33_0 : KCode := (.seq (.reg [(.op (some 14) none (.bin .lss (.t 13) (.t 12)))]) (.seq (.cond (.t 14) .skip (.exit 0)) (.seq (.block 1 (.seq (.reg [(.op (some 15)
  none (.mv (.t 13))), (.op (some 5) none (.mv (.t 15)))]) (.seq (.reg [(.op (some 16) none (.mv (.t 0))), (.op (some 17) none (.mv (.t 5))), (.op (some 18) none (.iad 1
  (.t 16) (.t 17))), (.op (some 19) none (.ld (.t 18))), (.op (some 20) none (.mv (.t 1))), (.op (some 21) none (.mv (.t 5))), (.op (some 22) none (.iad 1 (.t 20) (.t
  21))), (.op (some 23) none (.ld (.t 22))), (.op (some 24) none (.bin .neq (.t 19) (.t 23)))]) (.cond (.t 24) (.seq (.reg [(.op (some 4) none (.mv (.c (.bool
  false))))]) .ret) .skip)))) (.reg [(.op (some 25) none (.bin .add (.t 13) (.c (.int .i64 1)))), (.op (some 13) none (.mv (.t 25)))]))))
def s33_0 (S : Sys) (e : Fe) (H : Heap) (Q : Kx) : Prop := run S (.bin .lss (.c (e 13)) (.c (e 12))) [] H fun t14_12 H => jn (sq (fun e14 H => jn (sq (fun e16 H => run S
  (.bin .add (.c (e16 13)) (.c (.int .i64 1))) [] H fun t25_17 H => Q .normal (upd (upd e16 25 t25_17) 13 t25_17) H) Q) fun Q15 => run S (.iad 1 (.c (e14 0)) (.c (e14
  13))) [] H fun t18_18 H => run S (.ld (.c t18_18)) [] H fun t19_19 H => run S (.iad 1 (.c (e14 1)) (.c (e14 13))) [] H fun t22_20 H => run S (.ld (.c t22_20)) [] H fun
  t23_21 H => run S (.bin .neq (.c t19_19) (.c t23_21)) [] H fun t24_22 H => jn (blk 1 Q15) fun Q23 => cnd t24_22 (fun Q24 => Q24 .ret (upd (upd (upd (upd (upd (upd (upd
  (upd (upd (upd (upd (upd e14 15 (e14 13)) 5 (e14 13)) 16 (e14 0)) 17 (e14 13)) 18 t18_18) 19 t19_19) 20 (e14 1)) 21 (e14 13)) 22 t22_20) 23 t23_21) 24 t24_22) 4 (.bool
  false)) H) (fun Q25 => Q25 .normal (upd (upd (upd (upd (upd (upd (upd (upd (upd (upd (upd e14 15 (e14 13)) 5 (e14 13)) 16 (e14 0)) 17 (e14 13)) 18 t18_18) 19 t19_19)
  20 (e14 1)) 21 (e14 13)) 22 t22_20) 23 t23_21) 24 t24_22) H) Q23) Q) fun Q13 => cnd t14_12 (fun Q26 => Q26 .normal (upd e 14 t14_12) H) (fun Q27 => Q27 (.exit 0) (upd
  e 14 t14_12) H) Q13
theorem h33_0 (S : Sys) (e : Fe) (H : Heap) (Q : Kx) : wpC S b33_0 e H Q = s33_0 S e H Q := by kernel_rfl
theorem l33_0 (S : Sys) {Q : Kx} (I : Nat → Fe → Heap → Prop) (d : Nat) {e0 : Fe} {H : Heap} (h0 : I d e0 H) (hr : ∀ (d : Nat) (e : Fe) (H : Heap), I d e H → s33_0 S e H
  (sq (fun e' H' => ∃ d', d' < d ∧ I d' e' H') Q)) : WL S b33_0 e0 H Q := WL_inv I d h0 fun d e H hi => (h33_0 S e H _).mpr (hr d e H hi)
theorem u33_0 (S : Sys) {Q : Kx} {e : Fe} {H : Heap} (h : s33_0 S e H (sq (fun e' H' => WL S b33_0 e' H' Q) Q)) : WL S b33_0 e H Q := WL_once ((h33_0 S e H _).mpr h)
def s33 (S : Sys) (a0 a1 : Value) (H : Heap) (R : Kv) : Prop := run S (.lenL (.c a0)) [] H fun t7_1 H => run S (.lenL (.c a1)) [] H fun t9_2 H => run S (.bin .neq (.c
  t7_1) (.c t9_2)) [] H fun t10_3 H => jn (sq (fun e5 H => run S (.lenL (.c (e5 0))) [] H fun t12_6 H => jn (sq (fun e8 H => R (.bool true) H) (fn [(.t 4)] R)) fun Q7 =>
  jn (blk 0 Q7) fun Q9 => WL S b33_0 (upd (upd (upd e5 11 (e5 0)) 12 t12_6) 13 (.int .i64 0)) H Q9) (fn [(.t 4)] R)) fun Q4 => cnd t10_3 (fun Q10 => Q10 .ret (upd (upd
  (upd (upd (upd (upd (upd (Env.get [a0, a1]) 4 (.bool false)) 6 a0) 7 t7_1) 8 a1) 9 t9_2) 10 t10_3) 4 (.bool false)) H) (fun Q11 => Q11 .normal (upd (upd (upd (upd (upd
  (upd (Env.get [a0, a1]) 4 (.bool false)) 6 a0) 7 t7_1) 8 a1) 9 t9_2) 10 t10_3) H) Q4
theorem h33 (S : Sys) (a0 a1 : Value) (H : Heap) (R : Kv) : wpC S k33.body (Env.get [a0, a1]) H (fn [(.t 4)] R) = s33 S a0 a1 H R := by kernel_rfl
theorem w33 {S : Sys} (hR : S.R 33 = none) (hF : S.F 33 = some k33) (a0 a1 : Value) {H : Heap} {R : Kv} (h : s33 S a0 a1 H R) : Wf S 33 [a0, a1] H R := Wf_sh hR hF ((h33
  S a0 a1 H R).mpr h)
def b35_1 : KCode := (.seq (.seq (.reg [(.op (some 12) none (.mv (.t 7))), (.op (some 13) none (.mv (.t 0))), (.op (some 14) none (.lenL (.t 13))), (.op (some 15) none
  (.bin .leq (.t 12) (.t 14)))]) (.cond (.t 15) .skip (.exit 2))) (.seq (.block 3 (.seq (.reg [(.op (some 18) none (.mv (.t 0))), (.op (some 19) none (.mv (.t 7))), (.op
  (some 20) none (.mv (.t 1))), (.op (some 21) none (.call 28 [(.t 18), (.t 19), (.t 20)])), (.op (some 22) none (.mv (.t 6))), (.op (some 23) none (.bin .eql (.t 21)
  (.t 22)))]) (.cond (.t 23) (.reg [(.op (some 24) none (.mv (.t 5))), (.op (some 25) none (.mv (.t 7))), (.op (some 26) none (.bsl 3 1 [(.int .i64 0)] [(0, (1, (.t
  25)))])), (.op (some 27) none (.app 3 1 8 (.t 24) (.t 26))), (.op (some 5) none (.mv (.t 27)))]) .skip))) (.reg [(.op (some 16) none (.mv (.t 7))), (.op (some 17) none
  (.bin .add (.t 16) (.c (.int .i64 1)))), (.op (some 7) none (.mv (.t 17)))])))
def s35_1 (S : Sys) (e : Fe) (H : Heap) (Q : Kx) : Prop := run S (.lenL (.c (e 0))) [] H fun t14_14 H => run S (.bin .leq (.c (e 7)) (.c t14_14)) [] H fun t15_15 H => jn
  (sq (fun e17 H => jn (sq (fun e19 H => run S (.bin .add (.c (e19 7)) (.c (.int .i64 1))) [] H fun t17_20 H => Q .normal (upd (upd (upd e19 16 (e19 7)) 17 t17_20) 7
  t17_20) H) Q) fun Q18 => run S (.call 28 [(.c (e17 0)), (.c (e17 7)), (.c (e17 1))]) [] H fun t21_21 H => run S (.bin .eql (.c t21_21) (.c (e17 6))) [] H fun t23_22 H
  => jn (blk 3 Q18) fun Q23 => cnd t23_22 (fun Q24 => run S (.bsl 3 1 [(.int .i64 0)] [(0, (1, (.c (e17 7))))]) [] H fun t26_26 H => run S (.app 3 1 8 (.c (e17 5)) (.c
  t26_26)) [] H fun t27_27 H => Q24 .normal (upd (upd (upd (upd (upd (upd (upd (upd (upd (upd (upd e17 18 (e17 0)) 19 (e17 7)) 20 (e17 1)) 21 t21_21) 22 (e17 6)) 23
  t23_22) 24 (e17 5)) 25 (e17 7)) 26 t26_26) 27 t27_27) 5 t27_27) H) (fun Q25 => Q25 .normal (upd (upd (upd (upd (upd (upd e17 18 (e17 0)) 19 (e17 7)) 20 (e17 1)) 21
  t21_21) 22 (e17 6)) 23 t23_22) H) Q23) Q) fun Q16 => cnd t15_15 (fun Q28 => Q28 .normal (upd (upd (upd (upd e 12 (e 7)) 13 (e 0)) 14 t14_14) 15 t15_15) H) (fun Q29 =>
  Q29 (.exit 2) (upd (upd (upd (upd e 12 (e 7)) 13 (e 0)) 14 t14_14) 15 t15_15) H) Q16
theorem h35_1 (S : Sys) (e : Fe) (H : Heap) (Q : Kx) : wpC S b35_1 e H Q = s35_1 S e H Q := by kernel_rfl
theorem l35_1 (S : Sys) {Q : Kx} (I : Nat → Fe → Heap → Prop) (d : Nat) {e0 : Fe} {H : Heap} (h0 : I d e0 H) (hr : ∀ (d : Nat) (e : Fe) (H : Heap), I d e H → s35_1 S e H
  (sq (fun e' H' => ∃ d', d' < d ∧ I d' e' H') Q)) : WL S b35_1 e0 H Q := WL_inv I d h0 fun d e H hi => (h35_1 S e H _).mpr (hr d e H hi)
theorem u35_1 (S : Sys) {Q : Kx} {e : Fe} {H : Heap} (h : s35_1 S e H (sq (fun e' H' => WL S b35_1 e' H' Q) Q)) : WL S b35_1 e H Q := WL_once ((h35_1 S e H _).mpr h)
def b35_0 : KCode := (.seq (.seq (.reg [(.op (some 8) none (.mv (.t 6))), (.op (some 9) none (.bin .gtr (.t 8) (.c (.int .i64 0))))]) (.cond (.t 9) .skip (.exit 0)))
  (.seq (.block 1 (.seq (.reg [(.op (some 7) none (.mv (.c (.int .i64 1))))]) (.block 2 (.loop (.seq (.seq (.reg [(.op (some 12) none (.mv (.t 7))), (.op (some 13) none
  (.mv (.t 0))), (.op (some 14) none (.lenL (.t 13))), (.op (some 15) none (.bin .leq (.t 12) (.t 14)))]) (.cond (.t 15) .skip (.exit 2))) (.seq (.block 3 (.seq (.reg
  [(.op (some 18) none (.mv (.t 0))), (.op (some 19) none (.mv (.t 7))), (.op (some 20) none (.mv (.t 1))), (.op (some 21) none (.call 28 [(.t 18), (.t 19), (.t 20)])),
  (.op (some 22) none (.mv (.t 6))), (.op (some 23) none (.bin .eql (.t 21) (.t 22)))]) (.cond (.t 23) (.reg [(.op (some 24) none (.mv (.t 5))), (.op (some 25) none (.mv
  (.t 7))), (.op (some 26) none (.bsl 3 1 [(.int .i64 0)] [(0, (1, (.t 25)))])), (.op (some 27) none (.app 3 1 8 (.t 24) (.t 26))), (.op (some 5) none (.mv (.t 27)))])
  .skip))) (.reg [(.op (some 16) none (.mv (.t 7))), (.op (some 17) none (.bin .add (.t 16) (.c (.int .i64 1)))), (.op (some 7) none (.mv (.t 17)))]))))))) (.reg [(.op
  (some 10) none (.mv (.t 6))), (.op (some 11) none (.bin .sub (.t 10) (.c (.int .i64 1)))), (.op (some 6) none (.mv (.t 11)))])))
def s35_0 (S : Sys) (e : Fe) (H : Heap) (Q : Kx) : Prop := run S (.bin .gtr (.c (e 6)) (.c (.int .i64 0))) [] H fun t9_4 H => jn (sq (fun e6 H => jn (sq (fun e8 H => run
  S (.bin .sub (.c (e8 6)) (.c (.int .i64 1))) [] H fun t11_9 H => Q .normal (upd (upd (upd e8 10 (e8 6)) 11 t11_9) 6 t11_9) H) Q) fun Q7 => jn (blk 1 Q7) fun Q10 => jn
  (blk 2 Q10) fun Q11 => WL S b35_1 (upd e6 7 (.int .i64 1)) H Q11) Q) fun Q5 => cnd t9_4 (fun Q12 => Q12 .normal (upd (upd e 8 (e 6)) 9 t9_4) H) (fun Q13 => Q13 (.exit
  0) (upd (upd e 8 (e 6)) 9 t9_4) H) Q5
theorem h35_0 (S : Sys) (e : Fe) (H : Heap) (Q : Kx) : wpC S b35_0 e H Q = s35_0 S e H Q := by kernel_rfl
theorem l35_0 (S : Sys) {Q : Kx} (I : Nat → Fe → Heap → Prop) (d : Nat) {e0 : Fe} {H : Heap} (h0 : I d e0 H) (hr : ∀ (d : Nat) (e : Fe) (H : Heap), I d e H → s35_0 S e H
  (sq (fun e' H' => ∃ d', d' < d ∧ I d' e' H') Q)) : WL S b35_0 e0 H Q := WL_inv I d h0 fun d e H hi => (h35_0 S e H _).mpr (hr d e H hi)
theorem u35_0 (S : Sys) {Q : Kx} {e : Fe} {H : Heap} (h : s35_0 S e H (sq (fun e' H' => WL S b35_0 e' H' Q) Q)) : WL S b35_0 e H Q := WL_once ((h35_0 S e H _).mpr h)
def s35 (S : Sys) (a0 a1 : Value) (H : Heap) (R : Kv) : Prop := jn (sq (fun e2 H => R (e2 5) H) (fn [(.t 4)] R)) fun Q1 => jn (blk 0 Q1) fun Q3 => WL S b35_0 (upd (upd
  (upd (Env.get [a0, a1]) 4 (.slice none 0 0)) 5 (.slice none 0 0)) 6 (.int .i64 400)) H Q3
theorem h35 (S : Sys) (a0 a1 : Value) (H : Heap) (R : Kv) : wpC S k35.body (Env.get [a0, a1]) H (fn [(.t 4)] R) = s35 S a0 a1 H R := by kernel_rfl
theorem w35 {S : Sys} (hR : S.R 35 = none) (hF : S.F 35 = some k35) (a0 a1 : Value) {H : Heap} {R : Kv} (h : s35 S a0 a1 H R) : Wf S 35 [a0, a1] H R := Wf_sh hR hF ((h35
  S a0 a1 H R).mpr h)
def s28 (S : Sys) (a0 a1 a2 : Value) (H : Heap) (R : Kv) : Prop := run S (.bin .lss (.c a1) (.c (.int .i64 1))) [] H fun t8_1 H => gd t8_1 false (run S (.mv (.c a1)) []
  H) H fun t10_2 H => gd t8_1 false (run S (.mv (.c a0)) [] H) H fun t11_3 H => gd t8_1 false (run S (.lenL (.c t11_3)) [] H) H fun t12_4 H => gd t8_1 false (run S (.bin
  .gtr (.c t10_2) (.c t12_4)) [] H) H fun t13_5 H => run S (.pick (.c t8_1) (.c (.bool true)) (.c t13_5)) [] H fun t14_6 H => gd t14_6 false (run S (.mv (.c a2)) [] H) H
  fun t16_7 H => gd t14_6 false (run S (.mv (.c a0)) [] H) H fun t17_8 H => gd t14_6 false (run S (.mv (.c a1)) [] H) H fun t18_9 H => gd t14_6 false (run S (.bin .sub
  (.c t18_9) (.c (.int .i64 1))) [] H) H fun t19_10 H => gd t14_6 false (run S (.iad 1 (.c t17_8) (.c t19_10)) [] H) H fun t20_11 H => gd t14_6 false (run S (.ld (.c
  t20_11)) [] H) H fun t21_12 H => gd t14_6 false (run S (.bin .leq (.c t16_7) (.c t21_12)) [] H) H fun t22_13 H => run S (.pick (.c t14_6) (.c (.bool true)) (.c
  t22_13)) [] H fun t23_14 H => jn (sq (fun e16 H => run S (.bin .sub (.c (e16 1)) (.c (.int .i64 1))) [] H fun t27_17 H => run S (.iad 1 (.c (e16 0)) (.c t27_17)) [] H
  fun t28_18 H => run S (.ld (.c t28_18)) [] H fun t29_19 H => run S (.bin .sub (.c (e16 2)) (.c t29_19)) [] H fun t30_20 H => R t30_20 H) (fn [(.t 6)] R)) fun Q15 =>
  cnd t23_14 (fun Q21 => Q21 .ret (upd (upd (upd (upd (upd (upd (upd (upd (upd (upd (upd (upd (upd (upd (upd (upd (upd (upd (upd (Env.get [a0, a1, a2]) 6 (.int .i64 0))
  7 a1) 8 t8_1) 9 t8_1) 10 t10_2) 11 t11_3) 12 t12_4) 13 t13_5) 14 t14_6) 15 t14_6) 16 t16_7) 17 t17_8) 18 t18_9) 19 t19_10) 20 t20_11) 21 t21_12) 22 t22_13) 23 t23_14)
  6 (.int .i64 0)) H) (fun Q22 => Q22 .normal (upd (upd (upd (upd (upd (upd (upd (upd (upd (upd (upd (upd (upd (upd (upd (upd (upd (upd (Env.get [a0, a1, a2]) 6 (.int
  .i64 0)) 7 a1) 8 t8_1) 9 t8_1) 10 t10_2) 11 t11_3) 12 t12_4) 13 t13_5) 14 t14_6) 15 t14_6) 16 t16_7) 17 t17_8) 18 t18_9) 19 t19_10) 20 t20_11) 21 t21_12) 22 t22_13) 23
  t23_14) H) Q15
theorem h28 (S : Sys) (a0 a1 a2 : Value) (H : Heap) (R : Kv) : wpC S k28.body (Env.get [a0, a1, a2]) H (fn [(.t 6)] R) = s28 S a0 a1 a2 H R := by kernel_rfl
theorem w28 {S : Sys} (hR : S.R 28 = none) (hF : S.F 28 = some k28) (a0 a1 a2 : Value) {H : Heap} {R : Kv} (h : s28 S a0 a1 a2 H R) : Wf S 28 [a0, a1, a2] H R := Wf_sh
  hR hF ((h28 S a0 a1 a2 H R).mpr h)
def b63_0 : KCode := (.seq (.seq (.reg [(.op (some 12) none (.mv (.t 4))), (.op (some 13) none (.mv (.t 0))), (.op (some 14) none (.lenL (.t 13))), (.op (some 15) none
  (.bin .lss (.t 12) (.t 14)))]) (.cond (.t 15) .skip (.exit 0))) (.seq (.block 1 (.reg [(.op (some 18) none (.mv (.t 3))), (.op (some 19) none (.mv (.t 0))), (.op (some
  20) none (.mv (.t 4))), (.op (some 21) none (.iad 1 (.t 19) (.t 20))), (.op (some 22) none (.ld (.t 21))), (.op (some 23) none (.mn (.t 18) [(.t 22)])), (.op (some 3)
  none (.mv (.t 23)))])) (.reg [(.op (some 16) none (.mv (.t 4))), (.op (some 17) none (.bin .add (.t 16) (.c (.int .i64 1)))), (.op (some 4) none (.mv (.t 17)))])))
def s63_0 (S : Sys) (e : Fe) (H : Heap) (Q : Kx) : Prop := run S (.lenL (.c (e 0))) [] H fun t14_13 H => run S (.bin .lss (.c (e 4)) (.c t14_13)) [] H fun t15_14 H => jn
  (sq (fun e16 H => jn (sq (fun e18 H => run S (.bin .add (.c (e18 4)) (.c (.int .i64 1))) [] H fun t17_19 H => Q .normal (upd (upd (upd e18 16 (e18 4)) 17 t17_19) 4
  t17_19) H) Q) fun Q17 => run S (.iad 1 (.c (e16 0)) (.c (e16 4))) [] H fun t21_20 H => run S (.ld (.c t21_20)) [] H fun t22_21 H => run S (.mn (.c (e16 3)) [(.c
  t22_21)]) [] H fun t23_22 H => Q17 .normal (upd (upd (upd (upd (upd (upd (upd e16 18 (e16 3)) 19 (e16 0)) 20 (e16 4)) 21 t21_20) 22 t22_21) 23 t23_22) 3 t23_22) H) Q)
  fun Q15 => cnd t15_14 (fun Q23 => Q23 .normal (upd (upd (upd (upd e 12 (e 4)) 13 (e 0)) 14 t14_13) 15 t15_14) H) (fun Q24 => Q24 (.exit 0) (upd (upd (upd (upd e 12 (e
  4)) 13 (e 0)) 14 t14_13) 15 t15_14) H) Q15
theorem h63_0 (S : Sys) (e : Fe) (H : Heap) (Q : Kx) : wpC S b63_0 e H Q = s63_0 S e H Q := by kernel_rfl
theorem l63_0 (S : Sys) {Q : Kx} (I : Nat → Fe → Heap → Prop) (d : Nat) {e0 : Fe} {H : Heap} (h0 : I d e0 H) (hr : ∀ (d : Nat) (e : Fe) (H : Heap), I d e H → s63_0 S e H
  (sq (fun e' H' => ∃ d', d' < d ∧ I d' e' H') Q)) : WL S b63_0 e0 H Q := WL_inv I d h0 fun d e H hi => (h63_0 S e H _).mpr (hr d e H hi)
theorem u63_0 (S : Sys) {Q : Kx} {e : Fe} {H : Heap} (h : s63_0 S e H (sq (fun e' H' => WL S b63_0 e' H' Q) Q)) : WL S b63_0 e H Q := WL_once ((h63_0 S e H _).mpr h)
def s63 (S : Sys) (a0 : Value) (H : Heap) (R : Kv) : Prop := run S (.lenL (.c a0)) [] H fun t6_1 H => run S (.bin .lss (.c t6_1) (.c (.int .i64 1))) [] H fun t7_2 H =>
  jn (sq (fun e4 H => run S (.iad 1 (.c (e4 0)) (.c (.int .i64 0))) [] H fun t10_5 H => run S (.ld (.c t10_5)) [] H fun t11_6 H => jn (sq (fun e8 H => R (e8 3) H) (fn
  [(.t 2)] R)) fun Q7 => jn (blk 0 Q7) fun Q9 => WL S b63_0 (upd (upd (upd (upd (upd e4 9 (e4 0)) 10 t10_5) 11 t11_6) 3 t11_6) 4 (.int .i64 1)) H Q9) (fn [(.t 2)] R))
  fun Q3 => cnd t7_2 (fun Q10 => run S (.mki 9 (.c (.string (bs [115, 108, 105, 99, 101, 115, 46, 77, 105, 110, 58, 32, 101, 109, 112, 116, 121, 32, 108, 105, 115,
  116])))) [] H fun t8_12 H => run S .nev [] H fun _ H => Q10 .normal (upd (upd (upd (upd (upd (Env.get [a0]) 2 (.int .i64 0)) 5 a0) 6 t6_1) 7 t7_2) 8 t8_12) H) (fun Q11
  => Q11 .normal (upd (upd (upd (upd (Env.get [a0]) 2 (.int .i64 0)) 5 a0) 6 t6_1) 7 t7_2) H) Q3
theorem h63 (S : Sys) (a0 : Value) (H : Heap) (R : Kv) : wpC S k63.body (Env.get [a0]) H (fn [(.t 2)] R) = s63 S a0 H R := by kernel_rfl
theorem w63 {S : Sys} (hR : S.R 63 = none) (hF : S.F 63 = some k63) (a0 : Value) {H : Heap} {R : Kv} (h : s63 S a0 H R) : Wf S 63 [a0] H R := Wf_sh hR hF ((h63 S a0 H
  R).mpr h)
def b64_0 : KCode := (.seq (.seq (.reg [(.op (some 12) none (.mv (.t 4))), (.op (some 13) none (.mv (.t 0))), (.op (some 14) none (.lenL (.t 13))), (.op (some 15) none
  (.bin .lss (.t 12) (.t 14)))]) (.cond (.t 15) .skip (.exit 0))) (.seq (.block 1 (.reg [(.op (some 18) none (.mv (.t 3))), (.op (some 19) none (.mv (.t 0))), (.op (some
  20) none (.mv (.t 4))), (.op (some 21) none (.iad 1 (.t 19) (.t 20))), (.op (some 22) none (.ld (.t 21))), (.op (some 23) none (.mx (.t 18) [(.t 22)])), (.op (some 3)
  none (.mv (.t 23)))])) (.reg [(.op (some 16) none (.mv (.t 4))), (.op (some 17) none (.bin .add (.t 16) (.c (.int .i64 1)))), (.op (some 4) none (.mv (.t 17)))])))
def s64_0 (S : Sys) (e : Fe) (H : Heap) (Q : Kx) : Prop := run S (.lenL (.c (e 0))) [] H fun t14_13 H => run S (.bin .lss (.c (e 4)) (.c t14_13)) [] H fun t15_14 H => jn
  (sq (fun e16 H => jn (sq (fun e18 H => run S (.bin .add (.c (e18 4)) (.c (.int .i64 1))) [] H fun t17_19 H => Q .normal (upd (upd (upd e18 16 (e18 4)) 17 t17_19) 4
  t17_19) H) Q) fun Q17 => run S (.iad 1 (.c (e16 0)) (.c (e16 4))) [] H fun t21_20 H => run S (.ld (.c t21_20)) [] H fun t22_21 H => run S (.mx (.c (e16 3)) [(.c
  t22_21)]) [] H fun t23_22 H => Q17 .normal (upd (upd (upd (upd (upd (upd (upd e16 18 (e16 3)) 19 (e16 0)) 20 (e16 4)) 21 t21_20) 22 t22_21) 23 t23_22) 3 t23_22) H) Q)
  fun Q15 => cnd t15_14 (fun Q23 => Q23 .normal (upd (upd (upd (upd e 12 (e 4)) 13 (e 0)) 14 t14_13) 15 t15_14) H) (fun Q24 => Q24 (.exit 0) (upd (upd (upd (upd e 12 (e
  4)) 13 (e 0)) 14 t14_13) 15 t15_14) H) Q15
theorem h64_0 (S : Sys) (e : Fe) (H : Heap) (Q : Kx) : wpC S b64_0 e H Q = s64_0 S e H Q := by kernel_rfl
theorem l64_0 (S : Sys) {Q : Kx} (I : Nat → Fe → Heap → Prop) (d : Nat) {e0 : Fe} {H : Heap} (h0 : I d e0 H) (hr : ∀ (d : Nat) (e : Fe) (H : Heap), I d e H → s64_0 S e H
  (sq (fun e' H' => ∃ d', d' < d ∧ I d' e' H') Q)) : WL S b64_0 e0 H Q := WL_inv I d h0 fun d e H hi => (h64_0 S e H _).mpr (hr d e H hi)
theorem u64_0 (S : Sys) {Q : Kx} {e : Fe} {H : Heap} (h : s64_0 S e H (sq (fun e' H' => WL S b64_0 e' H' Q) Q)) : WL S b64_0 e H Q := WL_once ((h64_0 S e H _).mpr h)
def s64 (S : Sys) (a0 : Value) (H : Heap) (R : Kv) : Prop := run S (.lenL (.c a0)) [] H fun t6_1 H => run S (.bin .lss (.c t6_1) (.c (.int .i64 1))) [] H fun t7_2 H =>
  jn (sq (fun e4 H => run S (.iad 1 (.c (e4 0)) (.c (.int .i64 0))) [] H fun t10_5 H => run S (.ld (.c t10_5)) [] H fun t11_6 H => jn (sq (fun e8 H => R (e8 3) H) (fn
  [(.t 2)] R)) fun Q7 => jn (blk 0 Q7) fun Q9 => WL S b64_0 (upd (upd (upd (upd (upd e4 9 (e4 0)) 10 t10_5) 11 t11_6) 3 t11_6) 4 (.int .i64 1)) H Q9) (fn [(.t 2)] R))
  fun Q3 => cnd t7_2 (fun Q10 => run S (.mki 9 (.c (.string (bs [115, 108, 105, 99, 101, 115, 46, 77, 97, 120, 58, 32, 101, 109, 112, 116, 121, 32, 108, 105, 115,
  116])))) [] H fun t8_12 H => run S .nev [] H fun _ H => Q10 .normal (upd (upd (upd (upd (upd (Env.get [a0]) 2 (.int .i64 0)) 5 a0) 6 t6_1) 7 t7_2) 8 t8_12) H) (fun Q11
  => Q11 .normal (upd (upd (upd (upd (Env.get [a0]) 2 (.int .i64 0)) 5 a0) 6 t6_1) 7 t7_2) H) Q3
theorem h64 (S : Sys) (a0 : Value) (H : Heap) (R : Kv) : wpC S k64.body (Env.get [a0]) H (fn [(.t 2)] R) = s64 S a0 H R := by kernel_rfl
theorem w64 {S : Sys} (hR : S.R 64 = none) (hF : S.F 64 = some k64) (a0 : Value) {H : Heap} {R : Kv} (h : s64 S a0 H R) : Wf S 64 [a0] H R := Wf_sh hR hF ((h64 S a0 H
  R).mpr h)
def s66 (S : Sys) (a0 a1 a2 a3 : Value) (H : Heap) (R : Kv) : Prop := run S (.ld (.c a2)) [] H fun t7_1 H => run S (.ld (.c a3)) [] H fun t9_2 H => run S (.ld (.c a2))
  [] H fun t11_3 H => run S (.ld (.c a3)) [] H fun t13_4 H => run S (.call 27 [(.c t7_1), (.c a1), (.c t9_2)]) [] H fun t10_5 H => ck (kop (.ld (.c a2)) [] H) t11_3 (ck
  (kop (.ld (.c a3)) [] H) t13_4 (run S (.call 27 [(.c t11_3), (.c a0), (.c t13_4)]) [] H fun t14_6 H => run S (.call 67 [(.c t10_5), (.c t14_6)]) [] H fun t15_7 H => R
  t15_7 H))
theorem h66 (S : Sys) (a0 a1 a2 a3 : Value) (H : Heap) (R : Kv) : wpC S k66.body (Env.get [a0, a1, a2, a3]) H (fn [(.t 6)] R) = s66 S a0 a1 a2 a3 H R := by kernel_rfl
theorem w66 {S : Sys} (hR : S.R 66 = none) (hF : S.F 66 = some k66) (a0 a1 a2 a3 : Value) {H : Heap} {R : Kv} (h : s66 S a0 a1 a2 a3 H R) : Wf S 66 [a0, a1, a2, a3] H R
  := Wf_sh hR hF ((h66 S a0 a1 a2 a3 H R).mpr h)
def s67 (S : Sys) (a0 a1 : Value) (H : Heap) (R : Kv) : Prop := run S (.call 90 [(.c a0)]) [] H fun t8_1 H => run S (.call 90 [(.c a1)]) [] H fun t10_2 H => jn (sq (fun
  e4 H => jn (sq (fun e6 H => run S (.bin .lss (.c (e6 0)) (.c (e6 1))) [] H fun t16_7 H => jn (sq (fun e9 H => run S (.bin .gtr (.c (e9 0)) (.c (e9 1))) [] H fun t19_10
  H => jn (sq (fun e12 H => R (.int .i64 0) H) (fn [(.t 4)] R)) fun Q11 => cnd t19_10 (fun Q13 => Q13 .ret (upd (upd (upd (upd e9 17 (e9 0)) 18 (e9 1)) 19 t19_10) 4
  (.int .i64 1)) H) (fun Q14 => Q14 .normal (upd (upd (upd e9 17 (e9 0)) 18 (e9 1)) 19 t19_10) H) Q11) (fn [(.t 4)] R)) fun Q8 => cnd t16_7 (fun Q15 => Q15 .ret (upd
  (upd (upd (upd e6 14 (e6 0)) 15 (e6 1)) 16 t16_7) 4 (.int .i64 (-1))) H) (fun Q16 => Q16 .normal (upd (upd (upd e6 14 (e6 0)) 15 (e6 1)) 16 t16_7) H) Q8) (fn [(.t 4)]
  R)) fun Q5 => cnd (e4 6) (fun Q17 => Q17 .ret (upd (upd e4 13 (e4 6)) 4 (.int .i64 1)) H) (fun Q18 => Q18 .normal (upd e4 13 (e4 6)) H) Q5) (fn [(.t 4)] R)) fun Q3 =>
  cnd t8_1 (fun Q19 => jn (sq (fun e22 H => Q19 .ret (upd e22 4 (.int .i64 (-1))) H) Q19) fun Q21 => cnd t10_2 (fun Q23 => Q23 .ret (upd (upd (upd (upd (upd (upd (upd
  (upd (upd (upd (Env.get [a0, a1]) 4 (.int .i64 0)) 7 a0) 8 t8_1) 5 t8_1) 9 a1) 10 t10_2) 6 t10_2) 11 t8_1) 12 t10_2) 4 (.int .i64 0)) H) (fun Q24 => Q24 .normal (upd
  (upd (upd (upd (upd (upd (upd (upd (upd (Env.get [a0, a1]) 4 (.int .i64 0)) 7 a0) 8 t8_1) 5 t8_1) 9 a1) 10 t10_2) 6 t10_2) 11 t8_1) 12 t10_2) H) Q21) (fun Q20 => Q20
  .normal (upd (upd (upd (upd (upd (upd (upd (upd (Env.get [a0, a1]) 4 (.int .i64 0)) 7 a0) 8 t8_1) 5 t8_1) 9 a1) 10 t10_2) 6 t10_2) 11 t8_1) H) Q3
theorem h67 (S : Sys) (a0 a1 : Value) (H : Heap) (R : Kv) : wpC S k67.body (Env.get [a0, a1]) H (fn [(.t 4)] R) = s67 S a0 a1 H R := by kernel_rfl
theorem w67 {S : Sys} (hR : S.R 67 = none) (hF : S.F 67 = some k67) (a0 a1 : Value) {H : Heap} {R : Kv} (h : s67 S a0 a1 H R) : Wf S 67 [a0, a1] H R := Wf_sh hR hF ((h67
  S a0 a1 H R).mpr h)
def s90 (S : Sys) (a0 : Value) (H : Heap) (R : Kv) : Prop := run S (.bin .neq (.c a0) (.c a0)) [] H fun t5_1 H => R t5_1 H
theorem h90 (S : Sys) (a0 : Value) (H : Heap) (R : Kv) : wpC S k90.body (Env.get [a0]) H (fn [(.t 2)] R) = s90 S a0 H R := by kernel_rfl
theorem w90 {S : Sys} (hR : S.R 90 = none) (hF : S.F 90 = some k90) (a0 : Value) {H : Heap} {R : Kv} (h : s90 S a0 H R) : Wf S 90 [a0] H R := Wf_sh hR hF ((h90 S a0 H
  R).mpr h)
end Go.Proofs.Ytccjanieihlpcaa.K
