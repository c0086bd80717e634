/- The functions as nested words with named values, each held against its code by the kernel. Printed by a program of this work (sh.py). -/
import Derived.Test.YtjgpbhodbgjggaaGreatKLowCode
set_option maxRecDepth 100000
set_option linter.unusedVariables false
namespace Go.Proofs.YtjgpbhodbgjggaaGreat.K
open Go Go.Proofs
def b8_0 : KCode := (.seq (.reg [(.op (some 32) none (.bin .lss (.t 31) (.t 30)))]) (.seq (.cond (.t 32) .skip (.exit 0)) (.seq (.block 1 (.seq (.reg [(.op (some 33)
  none (.iad 2 (.t 29) (.t 31))), (.op (some 34) none (.ldn 2 (.t 33))), (.op (some 11) none (.alloc 53 [(.int .i64 0), (.string (bs []))])), (.op none none (.stn 2 (.t
  11) (.t 34)))]) (.seq (.seq (.reg [(.op (some 35) none (.fad 1 (.t 11))), (.op (some 36) none (.ld (.t 35))), (.op (some 37) none (.lenS (.t 36))), (.op (some 38) none
  (.bin .gtr (.t 37) (.c (.int .i64 60))))]) (.cond (.t 38) (.seq (.reg [(.op (some 6) none (.mv (.c (.bool true))))]) .ret) .skip)) (.seq (.reg [(.op (some 12) none
  (.mv (.c (.int .i64 0))))]) (.seq (.block 2 (.seq (.reg [(.op (some 44) none (.fad 0 (.t 11))), (.op (some 45) none (.ld (.t 44))), (.op (some 46) none (.mv (.t 8))),
  (.op (some 47) none (.lenS (.t 46))), (.op (some 48) none (.bin .neq (.t 45) (.t 47))), (.op (some 43) none (.mv (.t 48)))]) (.cond (.t 43) (.reg [(.op (some 12) none
  (.mv (.c (.int .i64 7))))]) (.seq (.reg [(.op (some 50) none (.mv (.t 8))), (.op (some 51) none (.lenS (.t 50))), (.op (some 52) none (.fad 1 (.t 11))), (.op (some 53)
  none (.ld (.t 52))), (.op (some 54) none (.lenS (.t 53))), (.op (some 55) none (.bin .add (.t 51) (.t 54))), (.op (some 56) none (.mv (.t 7))), (.op (some 57) none
  (.bin .gtr (.t 55) (.t 56))), (.op (some 49) none (.mv (.t 57)))]) (.cond (.t 49) (.reg [(.op (some 12) none (.mv (.c (.int .i64 5))))]) (.reg [(.op (some 39) none
  (.mv (.t 8))), (.op (some 40) none (.fad 1 (.t 11))), (.op (some 41) none (.ld (.t 40))), (.op (some 42) none (.bin .add (.t 39) (.t 41))), (.op (some 8) none (.mv (.t
  42)))])))))) (.seq (.reg [(.op (some 58) none (.mv (.t 9))), (.op (some 59) none (.fad 0 (.t 11))), (.op (some 60) none (.ld (.t 59))), (.op (some 61) none (.fad 1 (.t
  11))), (.op (some 62) none (.ld (.t 61))), (.op (some 63) none (.call 27 [(.t 58), (.t 60), (.t 62)])), (.op (some 64) none (.mv (.t 12))), (.op (some 65) none (.bin
  .neq (.t 63) (.t 64))), (.op (some 66) none (.mv (.t 65))), (.op (some 67) (some (66, false)) (.mv (.t 9))), (.op (some 68) (some (66, false)) (.call 28 [(.t 67)])),
  (.op (some 69) (some (66, false)) (.mv (.t 8))), (.op (some 70) (some (66, false)) (.lenS (.t 69))), (.op (some 71) (some (66, false)) (.bin .neq (.t 68) (.t 70))),
  (.op (some 72) none (.pick (.t 66) (.c (.bool true)) (.t 71)))]) (.cond (.t 72) (.seq (.reg [(.op (some 6) none (.mv (.c (.bool false))))]) .ret) .skip))))))) (.reg
  [(.op (some 73) none (.bin .add (.t 31) (.c (.int .i64 1)))), (.op (some 31) none (.mv (.t 73)))]))))
def s8_0 (S : Sys) (e : Fe) (H : Heap) (Q : Kx) : Prop := run S (.bin .lss (.c (e 31)) (.c (e 30))) [] H fun t32_62 H => jn (sq (fun e64 H => jn (sq (fun e66 H => run S
  (.bin .add (.c (e66 31)) (.c (.int .i64 1))) [] H fun t73_67 H => Q .normal (upd (upd e66 73 t73_67) 31 t73_67) H) Q) fun Q65 => run S (.iad 2 (.c (e64 29)) (.c (e64
  31))) [] H fun t33_68 H => run S (.ldn 2 (.c t33_68)) [] H fun t34_69 H => run S (.alloc 53 [(.int .i64 0), (.string (bs []))]) [] H fun t11_70 H => run S (.stn 2 (.c
  t11_70) (.c t34_69)) [] H fun _ H => run S (.fad 1 (.c t11_70)) [] H fun t35_71 H => run S (.ld (.c t35_71)) [] H fun t36_72 H => run S (.lenS (.c t36_72)) [] H fun
  t37_73 H => run S (.bin .gtr (.c t37_73) (.c (.int .i64 60))) [] H fun t38_74 H => jn (blk 1 Q65) fun Q75 => jn (sq (fun e77 H => jn (sq (fun e79 H => run S (.fad 0
  (.c (e79 11))) [] H fun t59_80 H => run S (.ld (.c t59_80)) [] H fun t60_81 H => run S (.fad 1 (.c (e79 11))) [] H fun t61_82 H => run S (.ld (.c t61_82)) [] H fun
  t62_83 H => run S (.call 27 [(.c (e79 9)), (.c t60_81), (.c t62_83)]) [] H fun t63_84 H => run S (.bin .neq (.c t63_84) (.c (e79 12))) [] H fun t65_85 H => gd t65_85
  false (run S (.mv (.c (e79 9))) [] H) H fun t67_86 H => gd t65_85 false (run S (.call 28 [(.c t67_86)]) [] H) H fun t68_87 H => gd t65_85 false (run S (.mv (.c (e79
  8))) [] H) H fun t69_88 H => gd t65_85 false (run S (.lenS (.c t69_88)) [] H) H fun t70_89 H => gd t65_85 false (run S (.bin .neq (.c t68_87) (.c t70_89)) [] H) H fun
  t71_90 H => run S (.pick (.c t65_85) (.c (.bool true)) (.c t71_90)) [] H fun t72_91 H => cnd t72_91 (fun Q92 => Q92 .ret (upd (upd (upd (upd (upd (upd (upd (upd (upd
  (upd (upd (upd (upd (upd (upd (upd e79 58 (e79 9)) 59 t59_80) 60 t60_81) 61 t61_82) 62 t62_83) 63 t63_84) 64 (e79 12)) 65 t65_85) 66 t65_85) 67 t67_86) 68 t68_87) 69
  t69_88) 70 t70_89) 71 t71_90) 72 t72_91) 6 (.bool false)) H) (fun Q93 => Q93 .normal (upd (upd (upd (upd (upd (upd (upd (upd (upd (upd (upd (upd (upd (upd (upd e79 58
  (e79 9)) 59 t59_80) 60 t60_81) 61 t61_82) 62 t62_83) 63 t63_84) 64 (e79 12)) 65 t65_85) 66 t65_85) 67 t67_86) 68 t68_87) 69 t69_88) 70 t70_89) 71 t71_90) 72 t72_91) H)
  Q75) Q75) fun Q78 => run S (.fad 0 (.c (e77 11))) [] H fun t44_94 H => run S (.ld (.c t44_94)) [] H fun t45_95 H => run S (.lenS (.c (e77 8))) [] H fun t47_96 H => run
  S (.bin .neq (.c t45_95) (.c t47_96)) [] H fun t48_97 H => jn (blk 2 Q78) fun Q98 => cnd t48_97 (fun Q99 => Q99 .normal (upd (upd (upd (upd (upd (upd (upd (upd e77 12
  (.int .i64 0)) 44 t44_94) 45 t45_95) 46 (e77 8)) 47 t47_96) 48 t48_97) 43 t48_97) 12 (.int .i64 7)) H) (fun Q100 => run S (.lenS (.c (e77 8))) [] H fun t51_101 H =>
  run S (.fad 1 (.c (e77 11))) [] H fun t52_102 H => run S (.ld (.c t52_102)) [] H fun t53_103 H => run S (.lenS (.c t53_103)) [] H fun t54_104 H => run S (.bin .add (.c
  t51_101) (.c t54_104)) [] H fun t55_105 H => run S (.bin .gtr (.c t55_105) (.c (e77 7))) [] H fun t57_106 H => cnd t57_106 (fun Q107 => Q107 .normal (upd (upd (upd
  (upd (upd (upd (upd (upd (upd (upd (upd (upd (upd (upd (upd (upd (upd e77 12 (.int .i64 0)) 44 t44_94) 45 t45_95) 46 (e77 8)) 47 t47_96) 48 t48_97) 43 t48_97) 50 (e77
  8)) 51 t51_101) 52 t52_102) 53 t53_103) 54 t54_104) 55 t55_105) 56 (e77 7)) 57 t57_106) 49 t57_106) 12 (.int .i64 5)) H) (fun Q108 => run S (.fad 1 (.c (e77 11))) [] H
  fun t40_109 H => run S (.ld (.c t40_109)) [] H fun t41_110 H => run S (.bin .add (.c (e77 8)) (.c t41_110)) [] H fun t42_111 H => Q108 .normal (upd (upd (upd (upd (upd
  (upd (upd (upd (upd (upd (upd (upd (upd (upd (upd (upd (upd (upd (upd (upd (upd e77 12 (.int .i64 0)) 44 t44_94) 45 t45_95) 46 (e77 8)) 47 t47_96) 48 t48_97) 43
  t48_97) 50 (e77 8)) 51 t51_101) 52 t52_102) 53 t53_103) 54 t54_104) 55 t55_105) 56 (e77 7)) 57 t57_106) 49 t57_106) 39 (e77 8)) 40 t40_109) 41 t41_110) 42 t42_111) 8
  t42_111) H) Q100) Q98) Q75) fun Q76 => cnd t38_74 (fun Q112 => Q112 .ret (upd (upd (upd (upd (upd (upd (upd (upd e64 33 t33_68) 34 t34_69) 11 t11_70) 35 t35_71) 36
  t36_72) 37 t37_73) 38 t38_74) 6 (.bool true)) H) (fun Q113 => Q113 .normal (upd (upd (upd (upd (upd (upd (upd e64 33 t33_68) 34 t34_69) 11 t11_70) 35 t35_71) 36
  t36_72) 37 t37_73) 38 t38_74) H) Q76) Q) fun Q63 => cnd t32_62 (fun Q114 => Q114 .normal (upd e 32 t32_62) H) (fun Q115 => Q115 (.exit 0) (upd e 32 t32_62) H) Q63
theorem h8_0 (S : Sys) (e : Fe) (H : Heap) (Q : Kx) : wpC S b8_0 e H Q = s8_0 S e H Q := by kernel_rfl
theorem l8_0 (S : Sys) {Q : Kx} (I : Nat → Fe → Heap → Prop) (d : Nat) {e0 : Fe} {H : Heap} (h0 : I d e0 H) (hr : ∀ (d : Nat) (e : Fe) (H : Heap), I d e H → s8_0 S e H
  (sq (fun e' H' => ∃ d', d' < d ∧ I d' e' H') Q)) : WL S b8_0 e0 H Q := WL_inv I d h0 fun d e H hi => (h8_0 S e H _).mpr (hr d e H hi)
theorem u8_0 (S : Sys) {Q : Kx} {e : Fe} {H : Heap} (h : s8_0 S e H (sq (fun e' H' => WL S b8_0 e' H' Q) Q)) : WL S b8_0 e H Q := WL_once ((h8_0 S e H _).mpr h)
def s8 (S : Sys) (a0 a1 a2 : Value) (H : Heap) (R : Kv) : Prop := run S (.call 22 []) [] H fun t18_1 H => run S (.un .not (.c t18_1)) [] H fun t19_2 H => jn (sq (fun e4
  H => run S (.lenL (.c (e4 0))) [] H fun t21_5 H => run S (.bin .gtr (.c t21_5) (.c (.int .i64 20))) [] H fun t22_6 H => jn (sq (fun e8 H => run S (.mx (.c (e8 1)) [(.c
  (.int .i64 0))]) [] H fun t24_9 H => run S (.mn (.c t24_9) [(.c (.int .i64 1048576))]) [] H fun t25_10 H => run S (.call 26 [(.c (e8 1)), (.c (e8 2))]) [] H fun t28_11
  H => run S (.lenL (.c (e8 0))) [] H fun t30_12 H => jn (sq (fun e14 H => run S (.call 29 [(.c (e14 9))]) [] H fun t76_15 H => run S (.xt (.c t76_15) 0) [] H fun t77_16
  H => run S (.xt (.c t76_15) 1) [] H fun t78_17 H => run S (.call 29 [(.c (.pointer none))]) [] H fun t81_18 H => run S (.xt (.c t81_18) 0) [] H fun t82_19 H => run S
  (.xt (.c t81_18) 1) [] H fun t83_20 H => run S (.call 27 [(.c (.pointer none)), (.c (.int .i64 0)), (.c (.string (bs [])))]) [] H fun t85_21 H => run S (.bin .neq (.c
  t85_21) (.c (.int .i64 1))) [] H fun t86_22 H => gd t86_22 false (run S (.mv (.c t83_20)) [] H) H fun t88_23 H => gd t86_22 false (run S (.bin .neq (.c t88_23) (.c
  (.int .i64 1))) [] H) H fun t89_24 H => run S (.pick (.c t86_22) (.c (.bool true)) (.c t89_24)) [] H fun t90_25 H => gd t90_25 false (run S (.mv (.c (.pointer none)))
  [] H) H fun t92_26 H => gd t90_25 false (run S (.call 28 [(.c t92_26)]) [] H) H fun t93_27 H => gd t90_25 false (run S (.bin .neq (.c t93_27) (.c (.int .i64 0))) [] H)
  H fun t94_28 H => run S (.pick (.c t90_25) (.c (.bool true)) (.c t94_28)) [] H fun t95_29 H => jn (sq (fun e31 H => jn (sq (fun e33 H => run S (.bin .eql (.c (e33 13))
  (.c (e33 8))) [] H fun t120_34 H => gd t120_34 true (run S (.mv (.c (e33 14))) [] H) H fun t122_35 H => gd t120_34 true (run S (.bin .eql (.c t122_35) (.c (.int .i64
  0))) [] H) H fun t123_36 H => run S (.pick (.c t120_34) (.c t123_36) (.c (.bool false))) [] H fun t124_37 H => R t124_37 H) (fn [(.t 6)] R)) fun Q32 => run S (.lenS
  (.c (e31 8))) [] H fun t98_38 H => run S (.bin .lss (.c t98_38) (.c (e31 7))) [] H fun t100_39 H => jn (blk 3 Q32) fun Q40 => cnd t100_39 (fun Q41 => run S (.bin .eql
  (.c (e31 13)) (.c (.string (bs [])))) [] H fun t102_43 H => gd t102_43 true (run S (.mv (.c (e31 14))) [] H) H fun t104_44 H => gd t102_43 true (run S (.bin .eql (.c
  t104_44) (.c (.int .i64 3))) [] H) H fun t105_45 H => run S (.pick (.c t102_43) (.c t105_45) (.c (.bool false))) [] H fun t106_46 H => Q41 .ret (upd (upd (upd (upd
  (upd (upd (upd (upd (upd (upd (upd (upd e31 97 (e31 8)) 98 t98_38) 99 (e31 7)) 100 t100_39) 96 t100_39) 101 (e31 13)) 102 t102_43) 103 t102_43) 104 t104_44) 105
  t105_45) 106 t106_46) 6 t106_46) H) (fun Q42 => run S (.call 30 [(.c (e31 8))]) [] H fun t109_47 H => run S (.bin .neq (.c t109_47) (.c (e31 2))) [] H fun t111_48 H =>
  cnd t111_48 (fun Q49 => run S (.bin .eql (.c (e31 13)) (.c (.string (bs [])))) [] H fun t113_51 H => gd t113_51 true (run S (.mv (.c (e31 14))) [] H) H fun t115_52 H
  => gd t113_51 true (run S (.bin .eql (.c t115_52) (.c (.int .i64 4))) [] H) H fun t116_53 H => run S (.pick (.c t113_51) (.c t116_53) (.c (.bool false))) [] H fun
  t117_54 H => Q49 .ret (upd (upd (upd (upd (upd (upd (upd (upd (upd (upd (upd (upd (upd (upd (upd (upd (upd e31 97 (e31 8)) 98 t98_38) 99 (e31 7)) 100 t100_39) 96
  t100_39) 108 (e31 8)) 109 t109_47) 110 (e31 2)) 111 t111_48) 107 t111_48) 112 (e31 13)) 113 t113_51) 114 t113_51) 115 t115_52) 116 t116_53) 117 t117_54) 6 t117_54) H)
  (fun Q50 => Q50 .normal (upd (upd (upd (upd (upd (upd (upd (upd (upd (upd e31 97 (e31 8)) 98 t98_38) 99 (e31 7)) 100 t100_39) 96 t100_39) 108 (e31 8)) 109 t109_47) 110
  (e31 2)) 111 t111_48) 107 t111_48) H) Q42) Q40) (fn [(.t 6)] R)) fun Q30 => cnd t95_29 (fun Q55 => Q55 .ret (upd (upd (upd (upd (upd (upd (upd (upd (upd (upd (upd (upd
  (upd (upd (upd (upd (upd (upd (upd (upd (upd (upd (upd (upd (upd (upd (upd (upd e14 75 (e14 9)) 76 t76_15) 74 t76_15) 77 t77_16) 78 t78_17) 13 t77_16) 14 t78_17) 15
  (.pointer none)) 80 (.pointer none)) 81 t81_18) 79 t81_18) 82 t82_19) 83 t83_20) 16 t82_19) 17 t83_20) 84 (.pointer none)) 85 t85_21) 86 t86_22) 87 t86_22) 88 t88_23)
  89 t89_24) 90 t90_25) 91 t90_25) 92 t92_26) 93 t93_27) 94 t94_28) 95 t95_29) 6 (.bool false)) H) (fun Q56 => Q56 .normal (upd (upd (upd (upd (upd (upd (upd (upd (upd
  (upd (upd (upd (upd (upd (upd (upd (upd (upd (upd (upd (upd (upd (upd (upd (upd (upd (upd e14 75 (e14 9)) 76 t76_15) 74 t76_15) 77 t77_16) 78 t78_17) 13 t77_16) 14
  t78_17) 15 (.pointer none)) 80 (.pointer none)) 81 t81_18) 79 t81_18) 82 t82_19) 83 t83_20) 16 t82_19) 17 t83_20) 84 (.pointer none)) 85 t85_21) 86 t86_22) 87 t86_22)
  88 t88_23) 89 t89_24) 90 t90_25) 91 t90_25) 92 t92_26) 93 t93_27) 94 t94_28) 95 t95_29) H) Q30) (fn [(.t 6)] R)) fun Q13 => jn (blk 0 Q13) fun Q57 => WL S b8_0 (upd
  (upd (upd (upd (upd (upd (upd (upd (upd (upd (upd (upd e8 23 (e8 1)) 24 t24_9) 25 t25_10) 7 t25_10) 8 (.string (bs []))) 26 (e8 1)) 27 (e8 2)) 28 t28_11) 9 t28_11) 29
  (e8 0)) 30 t30_12) 31 (.int .i64 0)) H Q57) (fn [(.t 6)] R)) fun Q7 => cnd t22_6 (fun Q58 => Q58 .ret (upd (upd (upd (upd e4 20 (e4 0)) 21 t21_5) 22 t22_6) 6 (.bool
  true)) H) (fun Q59 => Q59 .normal (upd (upd (upd e4 20 (e4 0)) 21 t21_5) 22 t22_6) H) Q7) (fn [(.t 6)] R)) fun Q3 => cnd t19_2 (fun Q60 => Q60 .ret (upd (upd (upd (upd
  (Env.get [a0, a1, a2]) 6 (.bool false)) 18 t18_1) 19 t19_2) 6 (.bool false)) H) (fun Q61 => Q61 .normal (upd (upd (upd (Env.get [a0, a1, a2]) 6 (.bool false)) 18
  t18_1) 19 t19_2) H) Q3
theorem h8 (S : Sys) (a0 a1 a2 : Value) (H : Heap) (R : Kv) : wpC S k8.body (Env.get [a0, a1, a2]) H (fn [(.t 6)] R) = s8 S a0 a1 a2 H R := by kernel_rfl
theorem w8 {S : Sys} (hR : S.R 8 = none) (hF : S.F 8 = some k8) (a0 a1 a2 : Value) {H : Heap} {R : Kv} (h : s8 S a0 a1 a2 H R) : Wf S 8 [a0, a1, a2] H R := Wf_sh hR hF
  ((h8 S a0 a1 a2 H R).mpr h)
def s26 (S : Sys) (a0 a1 : Value) (H : Heap) (R : Kv) : Prop := run S (.mx (.c a0) [(.c (.int .i64 0))]) [] H fun t6_1 H => run S (.mn (.c t6_1) [(.c (.int .i64
  1048576))]) [] H fun t7_2 H => run S (.build [(.int .i64 0), (.int .u64 0), (.slice none 0 0)] [(0, (1, (.c t7_2))), (1, (1, (.c a1)))]) [] H fun t9_3 H => run S (.box
  97 (.c t9_3)) [] H fun t10_4 H => R t10_4 H
theorem h26 (S : Sys) (a0 a1 : Value) (H : Heap) (R : Kv) : wpC S k26.body (Env.get [a0, a1]) H (fn [(.t 4)] R) = s26 S a0 a1 H R := by kernel_rfl
theorem w26 {S : Sys} (hR : S.R 26 = none) (hF : S.F 26 = some k26) (a0 a1 : Value) {H : Heap} {R : Kv} (h : s26 S a0 a1 H R) : Wf S 26 [a0, a1] H R := Wf_sh hR hF ((h26
  S a0 a1 H R).mpr h)
def s27 (S : Sys) (a0 a1 a2 : Value) (H : Heap) (R : Kv) : Prop := jn (sq (fun e2 H => run S (.nck (.c (e2 0))) [] H fun t34_3 H => run S (.fad 2 (.c t34_3)) [] H fun
  t35_4 H => run S (.ld (.c t35_4)) [] H fun t36_5 H => run S (.appS 5 (.c t36_5) (.c (e2 2))) [] H fun t38_6 H => run S (.nck (.c (e2 0))) [] H fun t39_7 H => run S
  (.fad 2 (.c t39_7)) [] H fun t40_8 H => run S (.st (.c t40_8) (.c t38_6)) [] H fun _ H => R (.int .i64 0) H) (fn [(.t 6)] R)) fun Q1 => run S (.eqv .ptr false (.c a0)
  (.c (.pointer none))) [] H fun t9_9 H => jn (blk 0 Q1) fun Q10 => cnd t9_9 (fun Q11 => Q11 .ret (upd (upd (upd (upd (upd (Env.get [a0, a1, a2]) 6 (.int .i64 0)) 8 a0)
  9 t9_9) 7 t9_9) 6 (.int .i64 1)) H) (fun Q12 => run S (.nck (.c a0)) [] H fun t13_13 H => run S (.fad 2 (.c t13_13)) [] H fun t14_14 H => run S (.ld (.c t14_14)) [] H
  fun t15_15 H => run S (.lenL (.c t15_15)) [] H fun t16_16 H => run S (.bin .neq (.c a1) (.c t16_16)) [] H fun t17_17 H => cnd t17_17 (fun Q18 => Q18 .ret (upd (upd
  (upd (upd (upd (upd (upd (upd (upd (upd (upd (upd (upd (Env.get [a0, a1, a2]) 6 (.int .i64 0)) 8 a0) 9 t9_9) 7 t9_9) 11 a1) 12 a0) 13 t13_13) 14 t14_14) 15 t15_15) 16
  t16_16) 17 t17_17) 10 t17_17) 6 (.int .i64 7)) H) (fun Q19 => run S (.lenS (.c a2)) [] H fun t20_20 H => run S (.nck (.c a0)) [] H fun t22_21 H => run S (.fad 0 (.c
  t22_21)) [] H fun t23_22 H => run S (.ld (.c t23_22)) [] H fun t24_23 H => run S (.nck (.c a0)) [] H fun t26_24 H => run S (.fad 2 (.c t26_24)) [] H fun t27_25 H =>
  run S (.ld (.c t27_25)) [] H fun t28_26 H => run S (.lenL (.c t28_26)) [] H fun t29_27 H => run S (.bin .sub (.c t24_23) (.c t29_27)) [] H fun t30_28 H => run S (.bin
  .gtr (.c t20_20) (.c t30_28)) [] H fun t31_29 H => cnd t31_29 (fun Q30 => Q30 .ret (upd (upd (upd (upd (upd (upd (upd (upd (upd (upd (upd (upd (upd (upd (upd (upd (upd
  (upd (upd (upd (upd (upd (upd (upd (upd (upd (upd (Env.get [a0, a1, a2]) 6 (.int .i64 0)) 8 a0) 9 t9_9) 7 t9_9) 11 a1) 12 a0) 13 t13_13) 14 t14_14) 15 t15_15) 16
  t16_16) 17 t17_17) 10 t17_17) 19 a2) 20 t20_20) 21 a0) 22 t22_21) 23 t23_22) 24 t24_23) 25 a0) 26 t26_24) 27 t27_25) 28 t28_26) 29 t29_27) 30 t30_28) 31 t31_29) 18
  t31_29) 6 (.int .i64 5)) H) (fun Q31 => Q31 .normal (upd (upd (upd (upd (upd (upd (upd (upd (upd (upd (upd (upd (upd (upd (upd (upd (upd (upd (upd (upd (upd (upd (upd
  (upd (upd (upd (Env.get [a0, a1, a2]) 6 (.int .i64 0)) 8 a0) 9 t9_9) 7 t9_9) 11 a1) 12 a0) 13 t13_13) 14 t14_14) 15 t15_15) 16 t16_16) 17 t17_17) 10 t17_17) 19 a2) 20
  t20_20) 21 a0) 22 t22_21) 23 t23_22) 24 t24_23) 25 a0) 26 t26_24) 27 t27_25) 28 t28_26) 29 t29_27) 30 t30_28) 31 t31_29) 18 t31_29) H) Q19) Q12) Q10
theorem h27 (S : Sys) (a0 a1 a2 : Value) (H : Heap) (R : Kv) : wpC S k27.body (Env.get [a0, a1, a2]) H (fn [(.t 6)] R) = s27 S a0 a1 a2 H R := by kernel_rfl
theorem w27 {S : Sys} (hR : S.R 27 = none) (hF : S.F 27 = some k27) (a0 a1 a2 : Value) {H : Heap} {R : Kv} (h : s27 S a0 a1 a2 H R) : Wf S 27 [a0, a1, a2] H R := Wf_sh
  hR hF ((h27 S a0 a1 a2 H R).mpr h)
def s28 (S : Sys) (a0 : Value) (H : Heap) (R : Kv) : Prop := run S (.eqv .ptr false (.c a0) (.c (.pointer none))) [] H fun t4_1 H => jn (sq (fun e3 H => run S (.nck (.c
  (e3 0))) [] H fun t6_4 H => run S (.fad 2 (.c t6_4)) [] H fun t7_5 H => run S (.ld (.c t7_5)) [] H fun t8_6 H => run S (.lenL (.c t8_6)) [] H fun t9_7 H => R t9_7 H)
  (fn [(.t 2)] R)) fun Q2 => cnd t4_1 (fun Q8 => Q8 .ret (upd (upd (upd (upd (Env.get [a0]) 2 (.int .i64 0)) 3 a0) 4 t4_1) 2 (.int .i64 0)) H) (fun Q9 => Q9 .normal (upd
  (upd (upd (Env.get [a0]) 2 (.int .i64 0)) 3 a0) 4 t4_1) H) Q2
theorem h28 (S : Sys) (a0 : Value) (H : Heap) (R : Kv) : wpC S k28.body (Env.get [a0]) H (fn [(.t 2)] R) = s28 S a0 H R := by kernel_rfl
theorem w28 {S : Sys} (hR : S.R 28 = none) (hF : S.F 28 = some k28) (a0 : Value) {H : Heap} {R : Kv} (h : s28 S a0 H R) : Wf S 28 [a0] H R := Wf_sh hR hF ((h28 S a0 H
  R).mpr h)
def s29 (S : Sys) (a0 : Value) (H : Heap) (R : Kv) : Prop := jn (sq (fun e2 H => run S (.nck (.c (e2 0))) [] H fun t31_3 H => run S (.fad 2 (.c t31_3)) [] H fun t32_4 H
  => run S (.ld (.c t32_4)) [] H fun t33_5 H => run S (.b2s 5 (.c t33_5)) [] H fun t34_6 H => R (tup [t34_6, (.int .i64 0)]) H) (fn [(.t 2), (.t 3)] R)) fun Q1 => run S
  (.eqv .ptr false (.c a0) (.c (.pointer none))) [] H fun t6_7 H => jn (blk 0 Q1) fun Q8 => cnd t6_7 (fun Q9 => Q9 .ret (upd (upd (upd (upd (upd (upd (upd (Env.get [a0])
  2 (.string (bs []))) 3 (.int .i64 0)) 5 a0) 6 t6_7) 4 t6_7) 2 (.string (bs []))) 3 (.int .i64 1)) H) (fun Q10 => run S (.nck (.c a0)) [] H fun t9_11 H => run S (.fad 2
  (.c t9_11)) [] H fun t10_12 H => run S (.ld (.c t10_12)) [] H fun t11_13 H => run S (.lenL (.c t11_13)) [] H fun t12_14 H => run S (.nck (.c a0)) [] H fun t14_15 H =>
  run S (.fad 0 (.c t14_15)) [] H fun t15_16 H => run S (.ld (.c t15_16)) [] H fun t16_17 H => run S (.bin .lss (.c t12_14) (.c t16_17)) [] H fun t17_18 H => cnd t17_18
  (fun Q19 => Q19 .ret (upd (upd (upd (upd (upd (upd (upd (upd (upd (upd (upd (upd (upd (upd (upd (upd (upd (upd (Env.get [a0]) 2 (.string (bs []))) 3 (.int .i64 0)) 5
  a0) 6 t6_7) 4 t6_7) 8 a0) 9 t9_11) 10 t10_12) 11 t11_13) 12 t12_14) 13 a0) 14 t14_15) 15 t15_16) 16 t16_17) 17 t17_18) 7 t17_18) 2 (.string (bs []))) 3 (.int .i64 3))
  H) (fun Q20 => run S (.nck (.c a0)) [] H fun t20_21 H => run S (.fad 2 (.c t20_21)) [] H fun t21_22 H => run S (.ld (.c t21_22)) [] H fun t22_23 H => run S (.b2s 5 (.c
  t22_23)) [] H fun t23_24 H => run S (.nck (.c a0)) [] H fun t26_25 H => run S (.fad 1 (.c t26_25)) [] H fun t27_26 H => run S (.ld (.c t27_26)) [] H fun t28_27 H =>
  run S (.call 48 [(.c t23_24)]) [] H fun t24_28 H => ck (kop (.ld (.c t27_26)) [] H) t28_27 (run S (.bin .neq (.c t24_28) (.c t28_27)) [] H fun t29_29 H => cnd t29_29
  (fun Q30 => Q30 .ret (upd (upd (upd (upd (upd (upd (upd (upd (upd (upd (upd (upd (upd (upd (upd (upd (upd (upd (upd (upd (upd (upd (upd (upd (upd (upd (upd (upd (upd
  (upd (Env.get [a0]) 2 (.string (bs []))) 3 (.int .i64 0)) 5 a0) 6 t6_7) 4 t6_7) 8 a0) 9 t9_11) 10 t10_12) 11 t11_13) 12 t12_14) 13 a0) 14 t14_15) 15 t15_16) 16 t16_17)
  17 t17_18) 7 t17_18) 19 a0) 20 t20_21) 21 t21_22) 22 t22_23) 23 t23_24) 25 a0) 26 t26_25) 27 t27_26) 28 t28_27) 24 t24_28) 29 t29_29) 18 t29_29) 2 (.string (bs []))) 3
  (.int .i64 4)) H) (fun Q31 => Q31 .normal (upd (upd (upd (upd (upd (upd (upd (upd (upd (upd (upd (upd (upd (upd (upd (upd (upd (upd (upd (upd (upd (upd (upd (upd (upd
  (upd (upd (upd (Env.get [a0]) 2 (.string (bs []))) 3 (.int .i64 0)) 5 a0) 6 t6_7) 4 t6_7) 8 a0) 9 t9_11) 10 t10_12) 11 t11_13) 12 t12_14) 13 a0) 14 t14_15) 15 t15_16)
  16 t16_17) 17 t17_18) 7 t17_18) 19 a0) 20 t20_21) 21 t21_22) 22 t22_23) 23 t23_24) 25 a0) 26 t26_25) 27 t27_26) 28 t28_27) 24 t24_28) 29 t29_29) 18 t29_29) H) Q20))
  Q10) Q8
theorem h29 (S : Sys) (a0 : Value) (H : Heap) (R : Kv) : wpC S k29.body (Env.get [a0]) H (fn [(.t 2), (.t 3)] R) = s29 S a0 H R := by kernel_rfl
theorem w29 {S : Sys} (hR : S.R 29 = none) (hF : S.F 29 = some k29) (a0 : Value) {H : Heap} {R : Kv} (h : s29 S a0 H R) : Wf S 29 [a0] H R := Wf_sh hR hF ((h29 S a0 H
  R).mpr h)
def b30_0 : KCode := (.seq (.seq (.reg [(.op (some 5) none (.mv (.t 4))), (.op (some 6) none (.mv (.t 0))), (.op (some 7) none (.lenS (.t 6))), (.op (some 8) none (.bin
  .lss (.t 5) (.t 7)))]) (.cond (.t 8) .skip (.exit 0))) (.seq (.block 1 (.seq (.reg [(.op (some 11) none (.mv (.t 3))), (.op (some 12) none (.mv (.t 0))), (.op (some
  13) none (.mv (.t 4))), (.op (some 14) none (.idS (.t 12) (.t 13))), (.op (some 15) none (.cvt .u64 (.t 14))), (.op (some 16) none (.bin .xor (.t 11) (.t 15))), (.op
  (some 3) none (.mv (.t 16)))]) (.seq (.reg [(.op (some 17) none (.mv (.t 3))), (.op (some 18) none (.bin .mul (.t 17) (.c (.int .u64 11400714819323198485)))), (.op
  (some 3) none (.mv (.t 18)))]) (.reg [(.op (some 19) none (.mv (.t 3))), (.op (some 20) none (.mv (.t 3))), (.op (some 21) none (.bin .quo (.t 20) (.c (.int .u64
  536870912)))), (.op (some 22) none (.bin .xor (.t 19) (.t 21))), (.op (some 3) none (.mv (.t 22)))])))) (.reg [(.op (some 9) none (.mv (.t 4))), (.op (some 10) none
  (.bin .add (.t 9) (.c (.int .i64 1)))), (.op (some 4) none (.mv (.t 10)))])))
def s30_0 (S : Sys) (e : Fe) (H : Heap) (Q : Kx) : Prop := run S (.lenS (.c (e 0))) [] H fun t7_10 H => run S (.bin .lss (.c (e 4)) (.c t7_10)) [] H fun t8_11 H => jn
  (sq (fun e13 H => jn (sq (fun e15 H => run S (.bin .add (.c (e15 4)) (.c (.int .i64 1))) [] H fun t10_16 H => Q .normal (upd (upd (upd e15 9 (e15 4)) 10 t10_16) 4
  t10_16) H) Q) fun Q14 => run S (.idS (.c (e13 0)) (.c (e13 4))) [] H fun t14_17 H => run S (.cvt .u64 (.c t14_17)) [] H fun t15_18 H => run S (.bin .xor (.c (e13 3))
  (.c t15_18)) [] H fun t16_19 H => run S (.bin .mul (.c t16_19) (.c (.int .u64 11400714819323198485))) [] H fun t18_20 H => run S (.bin .quo (.c t18_20) (.c (.int .u64
  536870912))) [] H fun t21_21 H => run S (.bin .xor (.c t18_20) (.c t21_21)) [] H fun t22_22 H => Q14 .normal (upd (upd (upd (upd (upd (upd (upd (upd (upd (upd (upd
  (upd (upd (upd (upd e13 11 (e13 3)) 12 (e13 0)) 13 (e13 4)) 14 t14_17) 15 t15_18) 16 t16_19) 3 t16_19) 17 t16_19) 18 t18_20) 3 t18_20) 19 t18_20) 20 t18_20) 21 t21_21)
  22 t22_22) 3 t22_22) H) Q) fun Q12 => cnd t8_11 (fun Q23 => Q23 .normal (upd (upd (upd (upd e 5 (e 4)) 6 (e 0)) 7 t7_10) 8 t8_11) H) (fun Q24 => Q24 (.exit 0) (upd
  (upd (upd (upd e 5 (e 4)) 6 (e 0)) 7 t7_10) 8 t8_11) H) Q12
theorem h30_0 (S : Sys) (e : Fe) (H : Heap) (Q : Kx) : wpC S b30_0 e H Q = s30_0 S e H Q := by kernel_rfl
theorem l30_0 (S : Sys) {Q : Kx} (I : Nat → Fe → Heap → Prop) (d : Nat) {e0 : Fe} {H : Heap} (h0 : I d e0 H) (hr : ∀ (d : Nat) (e : Fe) (H : Heap), I d e H → s30_0 S e H
  (sq (fun e' H' => ∃ d', d' < d ∧ I d' e' H') Q)) : WL S b30_0 e0 H Q := WL_inv I d h0 fun d e H hi => (h30_0 S e H _).mpr (hr d e H hi)
theorem u30_0 (S : Sys) {Q : Kx} {e : Fe} {H : Heap} (h : s30_0 S e H (sq (fun e' H' => WL S b30_0 e' H' Q) Q)) : WL S b30_0 e H Q := WL_once ((h30_0 S e H _).mpr h)
def s30 (S : Sys) (a0 : Value) (H : Heap) (R : Kv) : Prop := jn (sq (fun e2 H => run S (.lenS (.c (e2 0))) [] H fun t25_3 H => run S (.cvt .u64 (.c t25_3)) [] H fun
  t26_4 H => run S (.bin .add (.c (e2 3)) (.c t26_4)) [] H fun t27_5 H => run S (.bin .mul (.c t27_5) (.c (.int .u64 13787848793156543929))) [] H fun t29_6 H => run S
  (.bin .quo (.c t29_6) (.c (.int .u64 4294967296))) [] H fun t32_7 H => run S (.bin .xor (.c t29_6) (.c t32_7)) [] H fun t33_8 H => R t33_8 H) (fn [(.t 2)] R)) fun Q1
  => jn (blk 0 Q1) fun Q9 => WL S b30_0 (upd (upd (upd (Env.get [a0]) 2 (.int .u64 0)) 3 (.int .u64 7640891576956012808)) 4 (.int .i64 0)) H Q9
theorem h30 (S : Sys) (a0 : Value) (H : Heap) (R : Kv) : wpC S k30.body (Env.get [a0]) H (fn [(.t 2)] R) = s30 S a0 H R := by kernel_rfl
theorem w30 {S : Sys} (hR : S.R 30 = none) (hF : S.F 30 = some k30) (a0 : Value) {H : Heap} {R : Kv} (h : s30 S a0 H R) : Wf S 30 [a0] H R := Wf_sh hR hF ((h30 S a0 H
  R).mpr h)
def s48 (S : Sys) (a0 : Value) (H : Heap) (R : Kv) : Prop := run S (.call 78 []) [] H fun t3_1 H => run S (.call 79 [(.c t3_1), (.c a0)]) [] H fun t5_2 H => run S (.call
  80 [(.c t5_2)]) [] H fun t6_3 H => R t6_3 H
theorem h48 (S : Sys) (a0 : Value) (H : Heap) (R : Kv) : wpC S k48.body (Env.get [a0]) H (fn [(.t 2)] R) = s48 S a0 H R := by kernel_rfl
theorem w48 {S : Sys} (hR : S.R 48 = none) (hF : S.F 48 = some k48) (a0 : Value) {H : Heap} {R : Kv} (h : s48 S a0 H R) : Wf S 48 [a0] H R := Wf_sh hR hF ((h48 S a0 H
  R).mpr h)
def s78 (S : Sys) (H : Heap) (R : Kv) : Prop := run S (.alloc 113 [(.int .u64 0), (.int .u64 0)]) [] H fun t0_1 H => run S (.build [(.int .u64 0), (.int .u64 0)] [(0,
  (1, (.c (.int .u64 7640891576956012808))))]) [] H fun t1_2 H => run S (.stn 2 (.c t0_1) (.c t1_2)) [] H fun _ H => (fn [(.cn 0 2)] R) .ret (upd (upd (Env.get []) 0
  t0_1) 1 t1_2) H
theorem h78 (S : Sys) (H : Heap) (R : Kv) : wpC S k78.body (Env.get []) H (fn [(.cn 0 2)] R) = s78 S  H R := by kernel_rfl
theorem w78 {S : Sys} (hR : S.R 78 = none) (hF : S.F 78 = some k78) {H : Heap} {R : Kv} (h : s78 S  H R) : Wf S 78 [] H R := Wf_sh hR hF ((h78 S  H R).mpr h)
def b79_0 : KCode := (.seq (.reg [(.op (some 9) none (.bin .lss (.t 8) (.t 7)))]) (.seq (.cond (.t 9) .skip (.exit 0)) (.seq (.block 1 (.seq (.reg [(.op (some 10) none
  (.mv (.t 8))), (.op (some 5) none (.mv (.t 10)))]) (.reg [(.op (some 11) none (.ldn 2 (.t 2))), (.op (some 12) none (.mv (.t 1))), (.op (some 13) none (.mv (.t 5))),
  (.op (some 14) none (.idS (.t 12) (.t 13))), (.op (some 15) none (.call 118 [(.t 11), (.t 14)])), (.op none none (.stn 2 (.t 2) (.t 15)))]))) (.reg [(.op (some 16)
  none (.bin .add (.t 8) (.c (.int .i64 1)))), (.op (some 8) none (.mv (.t 16)))]))))
def s79_0 (S : Sys) (e : Fe) (H : Heap) (Q : Kx) : Prop := run S (.bin .lss (.c (e 8)) (.c (e 7))) [] H fun t9_8 H => jn (sq (fun e10 H => jn (sq (fun e12 H => run S
  (.bin .add (.c (e12 8)) (.c (.int .i64 1))) [] H fun t16_13 H => Q .normal (upd (upd e12 16 t16_13) 8 t16_13) H) Q) fun Q11 => run S (.ldn 2 (.c (e10 2))) [] H fun
  t11_14 H => run S (.idS (.c (e10 1)) (.c (e10 8))) [] H fun t14_15 H => run S (.call 118 [(.c t11_14), (.c t14_15)]) [] H fun t15_16 H => run S (.stn 2 (.c (e10 2))
  (.c t15_16)) [] H fun _ H => Q11 .normal (upd (upd (upd (upd (upd (upd (upd e10 10 (e10 8)) 5 (e10 8)) 11 t11_14) 12 (e10 1)) 13 (e10 8)) 14 t14_15) 15 t15_16) H) Q)
  fun Q9 => cnd t9_8 (fun Q17 => Q17 .normal (upd e 9 t9_8) H) (fun Q18 => Q18 (.exit 0) (upd e 9 t9_8) H) Q9
theorem h79_0 (S : Sys) (e : Fe) (H : Heap) (Q : Kx) : wpC S b79_0 e H Q = s79_0 S e H Q := by kernel_rfl
theorem l79_0 (S : Sys) {Q : Kx} (I : Nat → Fe → Heap → Prop) (d : Nat) {e0 : Fe} {H : Heap} (h0 : I d e0 H) (hr : ∀ (d : Nat) (e : Fe) (H : Heap), I d e H → s79_0 S e H
  (sq (fun e' H' => ∃ d', d' < d ∧ I d' e' H') Q)) : WL S b79_0 e0 H Q := WL_inv I d h0 fun d e H hi => (h79_0 S e H _).mpr (hr d e H hi)
theorem u79_0 (S : Sys) {Q : Kx} {e : Fe} {H : Heap} (h : s79_0 S e H (sq (fun e' H' => WL S b79_0 e' H' Q) Q)) : WL S b79_0 e H Q := WL_once ((h79_0 S e H _).mpr h)
def s79 (S : Sys) (a0 a1 : Value) (H : Heap) (R : Kv) : Prop := run S (.box 113 (.c a0)) [] H fun t2_1 H => run S (.alloc 113 [(.int .u64 0), (.int .u64 0)]) [] H fun
  t4_2 H => run S (.lenS (.c a1)) [] H fun t7_3 H => jn (sq (fun e5 H => run S (.ldn 2 (.c (e5 2))) [] H fun t17_6 H => run S (.stn 2 (.c (e5 4)) (.c t17_6)) [] H fun _
  H => (fn [(.cn 4 2)] R) .ret (upd e5 17 t17_6) H) (fn [(.cn 4 2)] R)) fun Q4 => jn (blk 0 Q4) fun Q7 => WL S b79_0 (upd (upd (upd (upd (upd (Env.get [a0, a1]) 2 t2_1)
  4 t4_2) 6 a1) 7 t7_3) 8 (.int .i64 0)) H Q7
theorem h79 (S : Sys) (a0 a1 : Value) (H : Heap) (R : Kv) : wpC S k79.body (Env.get [a0, a1]) H (fn [(.cn 4 2)] R) = s79 S a0 a1 H R := by kernel_rfl
theorem w79 {S : Sys} (hR : S.R 79 = none) (hF : S.F 79 = some k79) (a0 a1 : Value) {H : Heap} {R : Kv} (h : s79 S a0 a1 H R) : Wf S 79 [a0, a1] H R := Wf_sh hR hF ((h79
  S a0 a1 H R).mpr h)
def s80 (S : Sys) (a0 : Value) (H : Heap) (R : Kv) : Prop := run S (.box 113 (.c a0)) [] H fun t1_1 H => run S (.fad 0 (.c t1_1)) [] H fun t4_2 H => run S (.ld (.c
  t4_2)) [] H fun t5_3 H => run S (.fad 1 (.c t1_1)) [] H fun t6_4 H => run S (.ld (.c t6_4)) [] H fun t7_5 H => run S (.bin .add (.c t5_3) (.c t7_5)) [] H fun t8_6 H =>
  run S (.bin .mul (.c t8_6) (.c (.int .u64 13787848793156543929))) [] H fun t9_7 H => run S (.bin .shr (.c t9_7) (.c (.int .u64 32))) [] H fun t12_8 H => run S (.bin
  .xor (.c t9_7) (.c t12_8)) [] H fun t13_9 H => R t13_9 H
theorem h80 (S : Sys) (a0 : Value) (H : Heap) (R : Kv) : wpC S k80.body (Env.get [a0]) H (fn [(.t 2)] R) = s80 S a0 H R := by kernel_rfl
theorem w80 {S : Sys} (hR : S.R 80 = none) (hF : S.F 80 = some k80) (a0 : Value) {H : Heap} {R : Kv} (h : s80 S a0 H R) : Wf S 80 [a0] H R := Wf_sh hR hF ((h80 S a0 H
  R).mpr h)
def b104_0 : KCode := (.seq (.reg [(.op (some 22) none (.bin .lss (.t 21) (.t 20)))]) (.seq (.cond (.t 22) .skip (.exit 0)) (.seq (.block 1 (.seq (.reg [(.op (some 23)
  none (.mv (.t 21))), (.op (some 4) none (.mv (.t 23)))]) (.reg [(.op (some 24) none (.mv (.t 3))), (.op (some 25) none (.nck (.t 24))), (.op (some 26) none (.fad 1 (.t
  25))), (.op (some 27) none (.ld (.t 26))), (.op (some 28) none (.mv (.t 4))), (.op (some 29) none (.iad 1 (.t 27) (.t 28))), (.op none none (.st (.t 29) (.c (.int .i64
  (-1)))))]))) (.reg [(.op (some 30) none (.bin .add (.t 21) (.c (.int .i64 1)))), (.op (some 21) none (.mv (.t 30)))]))))
def s104_0 (S : Sys) (e : Fe) (H : Heap) (Q : Kx) : Prop := run S (.bin .lss (.c (e 21)) (.c (e 20))) [] H fun t22_30 H => jn (sq (fun e32 H => jn (sq (fun e34 H => run
  S (.bin .add (.c (e34 21)) (.c (.int .i64 1))) [] H fun t30_35 H => Q .normal (upd (upd e34 30 t30_35) 21 t30_35) H) Q) fun Q33 => run S (.nck (.c (e32 3))) [] H fun
  t25_36 H => run S (.fad 1 (.c t25_36)) [] H fun t26_37 H => run S (.ld (.c t26_37)) [] H fun t27_38 H => run S (.iad 1 (.c t27_38) (.c (e32 21))) [] H fun t29_39 H =>
  run S (.st (.c t29_39) (.c (.int .i64 (-1)))) [] H fun _ H => Q33 .normal (upd (upd (upd (upd (upd (upd (upd (upd e32 23 (e32 21)) 4 (e32 21)) 24 (e32 3)) 25 t25_36)
  26 t26_37) 27 t27_38) 28 (e32 21)) 29 t29_39) H) Q) fun Q31 => cnd t22_30 (fun Q40 => Q40 .normal (upd e 22 t22_30) H) (fun Q41 => Q41 (.exit 0) (upd e 22 t22_30) H)
  Q31
theorem h104_0 (S : Sys) (e : Fe) (H : Heap) (Q : Kx) : wpC S b104_0 e H Q = s104_0 S e H Q := by kernel_rfl
theorem l104_0 (S : Sys) {Q : Kx} (I : Nat → Fe → Heap → Prop) (d : Nat) {e0 : Fe} {H : Heap} (h0 : I d e0 H) (hr : ∀ (d : Nat) (e : Fe) (H : Heap), I d e H → s104_0 S e
  H (sq (fun e' H' => ∃ d', d' < d ∧ I d' e' H') Q)) : WL S b104_0 e0 H Q := WL_inv I d h0 fun d e H hi => (h104_0 S e H _).mpr (hr d e H hi)
theorem u104_0 (S : Sys) {Q : Kx} {e : Fe} {H : Heap} (h : s104_0 S e H (sq (fun e' H' => WL S b104_0 e' H' Q) Q)) : WL S b104_0 e H Q := WL_once ((h104_0 S e H _).mpr h)
def s104 (S : Sys) (a0 : Value) (H : Heap) (R : Kv) : Prop := run S (.lenS (.c a0)) [] H fun t7_1 H => run S (.mn (.c t7_1) [(.c (.int .i64 2000))]) [] H fun t8_2 H =>
  run S (.slS (.c a0) none (some (.c t8_2))) [] H fun t9_3 H => run S (.build [(.string (bs [])), (.slice none 0 0), (.slice none 0 0), (.slice none 0 0)] [(0, (1, (.c
  t9_3)))]) [] H fun t10_4 H => run S (.box 199 (.c t10_4)) [] H fun t11_5 H => run S (.mks 3 [(.int .i64 0)] 8 (.c (.int .i64 1024)) (.c (.int .i64 1024))) [] H fun
  t13_6 H => run S (.nck (.c t11_5)) [] H fun t14_7 H => run S (.fad 1 (.c t14_7)) [] H fun t15_8 H => run S (.st (.c t15_8) (.c t13_6)) [] H fun _ H => run S (.nck (.c
  t11_5)) [] H fun t17_9 H => run S (.fad 1 (.c t17_9)) [] H fun t18_10 H => run S (.ld (.c t18_10)) [] H fun t19_11 H => run S (.lenL (.c t19_11)) [] H fun t20_12 H =>
  jn (sq (fun e14 H => run S (.nck (.c (e14 3))) [] H fun t34_15 H => run S (.fad 0 (.c t34_15)) [] H fun t35_16 H => run S (.ld (.c t35_16)) [] H fun t36_17 H => run S
  (.lenS (.c t36_17)) [] H fun t37_18 H => run S (.nck (.c (e14 3))) [] H fun t40_19 H => run S (.fad 0 (.c t40_19)) [] H fun t41_20 H => run S (.ld (.c t41_20)) [] H
  fun t42_21 H => run S (.lenS (.c t42_21)) [] H fun t43_22 H => run S (.mks 3 [(.int .i64 0)] 8 (.c t37_18) (.c t37_18)) [] H fun t38_23 H => ck (kop (.ld (.c t41_20))
  [] H) t42_21 (run S (.nck (.c (e14 3))) [] H fun t45_24 H => run S (.fad 2 (.c t45_24)) [] H fun t46_25 H => run S (.st (.c t46_25) (.c t38_23)) [] H fun _ H => run S
  (.mks 4 [(.bool false)] 1 (.c t43_22) (.c t43_22)) [] H fun t44_26 H => ck (kop (.ld (.c t35_16)) [] H) t36_17 (run S (.nck (.c (e14 3))) [] H fun t47_27 H => run S
  (.fad 3 (.c t47_27)) [] H fun t48_28 H => run S (.st (.c t48_28) (.c t44_26)) [] H fun _ H => R (e14 3) H))) (fn [(.t 2)] R)) fun Q13 => jn (blk 0 Q13) fun Q29 => WL S
  b104_0 (upd (upd (upd (upd (upd (upd (upd (upd (upd (upd (upd (upd (upd (upd (upd (upd (upd (upd (upd (Env.get [a0]) 2 (.pointer none)) 5 a0) 6 a0) 7 t7_1) 8 t8_2) 9
  t9_3) 10 t10_4) 11 t11_5) 3 t11_5) 12 t11_5) 13 t13_6) 14 t14_7) 15 t15_8) 16 t11_5) 17 t17_9) 18 t18_10) 19 t19_11) 20 t20_12) 21 (.int .i64 0)) H Q29
theorem h104 (S : Sys) (a0 : Value) (H : Heap) (R : Kv) : wpC S k104.body (Env.get [a0]) H (fn [(.t 2)] R) = s104 S a0 H R := by kernel_rfl
theorem w104 {S : Sys} (hR : S.R 104 = none) (hF : S.F 104 = some k104) (a0 : Value) {H : Heap} {R : Kv} (h : s104 S a0 H R) : Wf S 104 [a0] H R := Wf_sh hR hF ((h104 S
  a0 H R).mpr h)
def s118 (S : Sys) (a0 a1 : Value) (H : Heap) (R : Kv) : Prop := run S (.box 113 (.c a0)) [] H fun t2_1 H => run S (.alloc 113 [(.int .u64 0), (.int .u64 0)]) [] H fun
  t4_2 H => run S (.fad 0 (.c t2_1)) [] H fun t6_3 H => run S (.ld (.c t6_3)) [] H fun t7_4 H => run S (.cvt .u64 (.c a1)) [] H fun t9_5 H => run S (.bin .xor (.c t7_4)
  (.c t9_5)) [] H fun t10_6 H => run S (.bin .mul (.c t10_6) (.c (.int .u64 11400714819323198485))) [] H fun t11_7 H => run S (.bin .shr (.c t11_7) (.c (.int .u64 29)))
  [] H fun t14_8 H => run S (.bin .xor (.c t11_7) (.c t14_8)) [] H fun t15_9 H => run S (.fad 1 (.c t2_1)) [] H fun t16_10 H => run S (.ld (.c t16_10)) [] H fun t17_11 H
  => run S (.bin .add (.c t17_11) (.c (.int .u64 1))) [] H fun t18_12 H => run S (.build [(.int .u64 0), (.int .u64 0)] [(0, (1, (.c t15_9))), (1, (1, (.c t18_12)))]) []
  H fun t19_13 H => run S (.stn 2 (.c t4_2) (.c t19_13)) [] H fun _ H => (fn [(.cn 4 2)] R) .ret (upd (upd (upd (upd (upd (upd (upd (upd (upd (upd (upd (upd (upd (upd
  (upd (upd (upd (Env.get [a0, a1]) 2 t2_1) 4 t4_2) 6 t6_3) 7 t7_4) 8 a1) 9 t9_5) 10 t10_6) 11 t11_7) 5 t11_7) 12 t11_7) 13 t11_7) 14 t14_8) 15 t15_9) 16 t16_10) 17
  t17_11) 18 t18_12) 19 t19_13) H
theorem h118 (S : Sys) (a0 a1 : Value) (H : Heap) (R : Kv) : wpC S k118.body (Env.get [a0, a1]) H (fn [(.cn 4 2)] R) = s118 S a0 a1 H R := by kernel_rfl
theorem w118 {S : Sys} (hR : S.R 118 = none) (hF : S.F 118 = some k118) (a0 a1 : Value) {H : Heap} {R : Kv} (h : s118 S a0 a1 H R) : Wf S 118 [a0, a1] H R := Wf_sh hR hF
  ((h118 S a0 a1 H R).mpr h)
def b132_0 : KCode := (.seq (.seq (.reg [(.op (some 5) none (.mv (.t 4))), (.op (some 6) none (.mv (.t 0))), (.op (some 7) none (.bin .lss (.t 5) (.t 6)))]) (.cond (.t
  7) .skip (.exit 0))) (.seq (.block 1 (.reg [(.op (some 10) none (.mv (.t 3))), (.op (some 11) none (.bin .mul (.t 10) (.c (.int .i64 2)))), (.op (some 3) none (.mv (.t
  11)))])) (.reg [(.op (some 8) none (.mv (.t 4))), (.op (some 9) none (.bin .add (.t 8) (.c (.int .i64 1)))), (.op (some 4) none (.mv (.t 9)))])))
def s132_0 (S : Sys) (e : Fe) (H : Heap) (Q : Kx) : Prop := run S (.bin .lss (.c (e 4)) (.c (e 0))) [] H fun t7_4 H => jn (sq (fun e6 H => jn (sq (fun e8 H => run S
  (.bin .add (.c (e8 4)) (.c (.int .i64 1))) [] H fun t9_9 H => Q .normal (upd (upd (upd e8 8 (e8 4)) 9 t9_9) 4 t9_9) H) Q) fun Q7 => run S (.bin .mul (.c (e6 3)) (.c
  (.int .i64 2))) [] H fun t11_10 H => Q7 .normal (upd (upd (upd e6 10 (e6 3)) 11 t11_10) 3 t11_10) H) Q) fun Q5 => cnd t7_4 (fun Q11 => Q11 .normal (upd (upd (upd e 5
  (e 4)) 6 (e 0)) 7 t7_4) H) (fun Q12 => Q12 (.exit 0) (upd (upd (upd e 5 (e 4)) 6 (e 0)) 7 t7_4) H) Q5
theorem h132_0 (S : Sys) (e : Fe) (H : Heap) (Q : Kx) : wpC S b132_0 e H Q = s132_0 S e H Q := by kernel_rfl
theorem l132_0 (S : Sys) {Q : Kx} (I : Nat → Fe → Heap → Prop) (d : Nat) {e0 : Fe} {H : Heap} (h0 : I d e0 H) (hr : ∀ (d : Nat) (e : Fe) (H : Heap), I d e H → s132_0 S e
  H (sq (fun e' H' => ∃ d', d' < d ∧ I d' e' H') Q)) : WL S b132_0 e0 H Q := WL_inv I d h0 fun d e H hi => (h132_0 S e H _).mpr (hr d e H hi)
theorem u132_0 (S : Sys) {Q : Kx} {e : Fe} {H : Heap} (h : s132_0 S e H (sq (fun e' H' => WL S b132_0 e' H' Q) Q)) : WL S b132_0 e H Q := WL_once ((h132_0 S e H _).mpr h)
def s132 (S : Sys) (a0 : Value) (H : Heap) (R : Kv) : Prop := jn (sq (fun e2 H => R (e2 3) H) (fn [(.t 2)] R)) fun Q1 => jn (blk 0 Q1) fun Q3 => WL S b132_0 (upd (upd
  (upd (Env.get [a0]) 2 (.int .i64 0)) 3 (.int .i64 1)) 4 (.int .i64 0)) H Q3
theorem h132 (S : Sys) (a0 : Value) (H : Heap) (R : Kv) : wpC S k132.body (Env.get [a0]) H (fn [(.t 2)] R) = s132 S a0 H R := by kernel_rfl
theorem w132 {S : Sys} (hR : S.R 132 = none) (hF : S.F 132 = some k132) (a0 : Value) {H : Heap} {R : Kv} (h : s132 S a0 H R) : Wf S 132 [a0] H R := Wf_sh hR hF ((h132 S
  a0 H R).mpr h)
def b209_0 : KCode := (.seq (.seq (.reg [(.op (some 4) none (.mv (.t 3))), (.op (some 5) none (.mv (.t 0))), (.op (some 6) none (.lenL (.t 5))), (.op (some 7) none (.bin
  .lss (.t 4) (.t 6)))]) (.cond (.t 7) .skip (.exit 0))) (.seq (.block 1 (.seq (.reg [(.op (some 10) none (.mv (.t 0))), (.op (some 11) none (.mv (.t 3))), (.op (some
  12) none (.iad 1 (.t 10) (.t 11))), (.op (some 13) none (.ld (.t 12))), (.op (some 14) none (.bin .lss (.t 13) (.c (.int .i64 0)))), (.op (some 15) none (.mv (.t
  14))), (.op (some 16) (some (15, false)) (.mv (.t 0))), (.op (some 17) (some (15, false)) (.mv (.t 3))), (.op (some 18) (some (15, false)) (.iad 1 (.t 16) (.t 17))),
  (.op (some 19) (some (15, false)) (.ld (.t 18))), (.op (some 20) (some (15, false)) (.bin .gtr (.t 19) (.c (.int .i64 11)))), (.op (some 21) none (.pick (.t 15) (.c
  (.bool true)) (.t 20)))]) (.cond (.t 21) (.seq (.reg [(.op (some 2) none (.mv (.c (.bool false))))]) .ret) .skip))) (.reg [(.op (some 8) none (.mv (.t 3))), (.op (some
  9) none (.bin .add (.t 8) (.c (.int .i64 1)))), (.op (some 3) none (.mv (.t 9)))])))
def s209_0 (S : Sys) (e : Fe) (H : Heap) (Q : Kx) : Prop := run S (.lenL (.c (e 0))) [] H fun t6_6 H => run S (.bin .lss (.c (e 3)) (.c t6_6)) [] H fun t7_7 H => jn (sq
  (fun e9 H => jn (sq (fun e11 H => run S (.bin .add (.c (e11 3)) (.c (.int .i64 1))) [] H fun t9_12 H => Q .normal (upd (upd (upd e11 8 (e11 3)) 9 t9_12) 3 t9_12) H) Q)
  fun Q10 => run S (.iad 1 (.c (e9 0)) (.c (e9 3))) [] H fun t12_13 H => run S (.ld (.c t12_13)) [] H fun t13_14 H => run S (.bin .lss (.c t13_14) (.c (.int .i64 0))) []
  H fun t14_15 H => gd t14_15 false (run S (.mv (.c (e9 0))) [] H) H fun t16_16 H => gd t14_15 false (run S (.mv (.c (e9 3))) [] H) H fun t17_17 H => gd t14_15 false
  (run S (.iad 1 (.c t16_16) (.c t17_17)) [] H) H fun t18_18 H => gd t14_15 false (run S (.ld (.c t18_18)) [] H) H fun t19_19 H => gd t14_15 false (run S (.bin .gtr (.c
  t19_19) (.c (.int .i64 11))) [] H) H fun t20_20 H => run S (.pick (.c t14_15) (.c (.bool true)) (.c t20_20)) [] H fun t21_21 H => jn (blk 1 Q10) fun Q22 => cnd t21_21
  (fun Q23 => Q23 .ret (upd (upd (upd (upd (upd (upd (upd (upd (upd (upd (upd (upd (upd e9 10 (e9 0)) 11 (e9 3)) 12 t12_13) 13 t13_14) 14 t14_15) 15 t14_15) 16 t16_16)
  17 t17_17) 18 t18_18) 19 t19_19) 20 t20_20) 21 t21_21) 2 (.bool false)) H) (fun Q24 => Q24 .normal (upd (upd (upd (upd (upd (upd (upd (upd (upd (upd (upd (upd e9 10
  (e9 0)) 11 (e9 3)) 12 t12_13) 13 t13_14) 14 t14_15) 15 t14_15) 16 t16_16) 17 t17_17) 18 t18_18) 19 t19_19) 20 t20_20) 21 t21_21) H) Q22) Q) fun Q8 => cnd t7_7 (fun Q25
  => Q25 .normal (upd (upd (upd (upd e 4 (e 3)) 5 (e 0)) 6 t6_6) 7 t7_7) H) (fun Q26 => Q26 (.exit 0) (upd (upd (upd (upd e 4 (e 3)) 5 (e 0)) 6 t6_6) 7 t7_7) H) Q8
theorem h209_0 (S : Sys) (e : Fe) (H : Heap) (Q : Kx) : wpC S b209_0 e H Q = s209_0 S e H Q := by kernel_rfl
theorem l209_0 (S : Sys) {Q : Kx} (I : Nat → Fe → Heap → Prop) (d : Nat) {e0 : Fe} {H : Heap} (h0 : I d e0 H) (hr : ∀ (d : Nat) (e : Fe) (H : Heap), I d e H → s209_0 S e
  H (sq (fun e' H' => ∃ d', d' < d ∧ I d' e' H') Q)) : WL S b209_0 e0 H Q := WL_inv I d h0 fun d e H hi => (h209_0 S e H _).mpr (hr d e H hi)
theorem u209_0 (S : Sys) {Q : Kx} {e : Fe} {H : Heap} (h : s209_0 S e H (sq (fun e' H' => WL S b209_0 e' H' Q) Q)) : WL S b209_0 e H Q := WL_once ((h209_0 S e H _).mpr h)
def s209 (S : Sys) (a0 : Value) (H : Heap) (R : Kv) : Prop := jn (sq (fun e2 H => run S (.lenL (.c (e2 0))) [] H fun t23_3 H => run S (.bin .leq (.c t23_3) (.c (.int
  .i64 256))) [] H fun t24_4 H => R t24_4 H) (fn [(.t 2)] R)) fun Q1 => jn (blk 0 Q1) fun Q5 => WL S b209_0 (upd (upd (Env.get [a0]) 2 (.bool false)) 3 (.int .i64 0)) H
  Q5
theorem h209 (S : Sys) (a0 : Value) (H : Heap) (R : Kv) : wpC S k209.body (Env.get [a0]) H (fn [(.t 2)] R) = s209 S a0 H R := by kernel_rfl
theorem w209 {S : Sys} (hR : S.R 209 = none) (hF : S.F 209 = some k209) (a0 : Value) {H : Heap} {R : Kv} (h : s209 S a0 H R) : Wf S 209 [a0] H R := Wf_sh hR hF ((h209 S
  a0 H R).mpr h)
def b234_0 : KCode := (.seq (.reg [(.op (some 8) none (.bin .lss (.t 7) (.t 6)))]) (.seq (.cond (.t 8) .skip (.exit 0)) (.seq (.block 1 (.seq (.reg [(.op (some 9) none
  (.iad 1 (.t 5) (.t 7))), (.op (some 10) none (.ld (.t 9))), (.op (some 4) none (.mv (.t 10)))]) (.seq (.reg [(.op (some 11) none (.mv (.t 4))), (.op (some 12) none
  (.bin .lss (.t 11) (.c (.int .i64 0)))), (.op (some 13) none (.mv (.t 12))), (.op (some 14) (some (13, false)) (.mv (.t 4))), (.op (some 15) (some (13, false)) (.bin
  .gtr (.t 14) (.c (.int .i64 11)))), (.op (some 16) none (.pick (.t 13) (.c (.bool true)) (.t 15)))]) (.cond (.t 16) (.seq (.reg [(.op (some 2) none (.mv (.c (.bool
  false))))]) .ret) .skip)))) (.reg [(.op (some 17) none (.bin .add (.t 7) (.c (.int .i64 1)))), (.op (some 7) none (.mv (.t 17)))]))))
def s234_0 (S : Sys) (e : Fe) (H : Heap) (Q : Kx) : Prop := run S (.bin .lss (.c (e 7)) (.c (e 6))) [] H fun t8_7 H => jn (sq (fun e9 H => jn (sq (fun e11 H => run S
  (.bin .add (.c (e11 7)) (.c (.int .i64 1))) [] H fun t17_12 H => Q .normal (upd (upd e11 17 t17_12) 7 t17_12) H) Q) fun Q10 => run S (.iad 1 (.c (e9 5)) (.c (e9 7)))
  [] H fun t9_13 H => run S (.ld (.c t9_13)) [] H fun t10_14 H => run S (.bin .lss (.c t10_14) (.c (.int .i64 0))) [] H fun t12_15 H => gd t12_15 false (run S (.mv (.c
  t10_14)) [] H) H fun t14_16 H => gd t12_15 false (run S (.bin .gtr (.c t14_16) (.c (.int .i64 11))) [] H) H fun t15_17 H => run S (.pick (.c t12_15) (.c (.bool true))
  (.c t15_17)) [] H fun t16_18 H => jn (blk 1 Q10) fun Q19 => cnd t16_18 (fun Q20 => Q20 .ret (upd (upd (upd (upd (upd (upd (upd (upd (upd (upd e9 9 t9_13) 10 t10_14) 4
  t10_14) 11 t10_14) 12 t12_15) 13 t12_15) 14 t14_16) 15 t15_17) 16 t16_18) 2 (.bool false)) H) (fun Q21 => Q21 .normal (upd (upd (upd (upd (upd (upd (upd (upd (upd e9 9
  t9_13) 10 t10_14) 4 t10_14) 11 t10_14) 12 t12_15) 13 t12_15) 14 t14_16) 15 t15_17) 16 t16_18) H) Q19) Q) fun Q8 => cnd t8_7 (fun Q22 => Q22 .normal (upd e 8 t8_7) H)
  (fun Q23 => Q23 (.exit 0) (upd e 8 t8_7) H) Q8
theorem h234_0 (S : Sys) (e : Fe) (H : Heap) (Q : Kx) : wpC S b234_0 e H Q = s234_0 S e H Q := by kernel_rfl
theorem l234_0 (S : Sys) {Q : Kx} (I : Nat → Fe → Heap → Prop) (d : Nat) {e0 : Fe} {H : Heap} (h0 : I d e0 H) (hr : ∀ (d : Nat) (e : Fe) (H : Heap), I d e H → s234_0 S e
  H (sq (fun e' H' => ∃ d', d' < d ∧ I d' e' H') Q)) : WL S b234_0 e0 H Q := WL_inv I d h0 fun d e H hi => (h234_0 S e H _).mpr (hr d e H hi)
theorem u234_0 (S : Sys) {Q : Kx} {e : Fe} {H : Heap} (h : s234_0 S e H (sq (fun e' H' => WL S b234_0 e' H' Q) Q)) : WL S b234_0 e H Q := WL_once ((h234_0 S e H _).mpr h)
def s234 (S : Sys) (a0 : Value) (H : Heap) (R : Kv) : Prop := run S (.lenL (.c a0)) [] H fun t6_1 H => jn (sq (fun e3 H => run S (.lenL (.c (e3 0))) [] H fun t19_4 H =>
  run S (.bin .leq (.c t19_4) (.c (.int .i64 256))) [] H fun t20_5 H => R t20_5 H) (fn [(.t 2)] R)) fun Q2 => jn (blk 0 Q2) fun Q6 => WL S b234_0 (upd (upd (upd (upd
  (Env.get [a0]) 2 (.bool false)) 5 a0) 6 t6_1) 7 (.int .i64 0)) H Q6
theorem h234 (S : Sys) (a0 : Value) (H : Heap) (R : Kv) : wpC S k234.body (Env.get [a0]) H (fn [(.t 2)] R) = s234 S a0 H R := by kernel_rfl
theorem w234 {S : Sys} (hR : S.R 234 = none) (hF : S.F 234 = some k234) (a0 : Value) {H : Heap} {R : Kv} (h : s234 S a0 H R) : Wf S 234 [a0] H R := Wf_sh hR hF ((h234 S
  a0 H R).mpr h)
end Go.Proofs.YtjgpbhodbgjggaaGreat.K
