/- The functions as nested words with named values, each held against its code by the kernel. Printed by a program of this work (sh.py). -/
import Derived.Test.YtlboioplemlneaaKLowSh1
set_option maxRecDepth 100000
set_option linter.unusedVariables false
namespace Go.Proofs.Ytlboioplemlneaa.K
open Go Go.Proofs
def b43_0 : KCode := (.seq (.reg [(.op (some 27) none (.bin .lss (.t 26) (.t 25)))]) (.seq (.cond (.t 27) .skip (.exit 0)) (.seq (.block 1 (.seq (.reg [(.op (some 28)
  none (.mv (.t 26))), (.op (some 29) none (.iad 1 (.t 24) (.t 26))), (.op (some 30) none (.ld (.t 29))), (.op (some 7) none (.mv (.t 28))), (.op (some 8) none (.mv (.t
  30)))]) (.seq (.seq (.reg [(.op (some 31) none (.mv (.t 8))), (.op (some 32) none (.bin .gtr (.t 31) (.c (.int .i64 0)))), (.op (some 33) none (.mv (.t 32))), (.op
  (some 34) (some (33, true)) (.mv (.t 1))), (.op (some 35) (some (33, true)) (.mv (.t 7))), (.op (some 36) (some (33, true)) (.iad 1 (.t 34) (.t 35))), (.op (some 37)
  (some (33, true)) (.ld (.t 36))), (.op (some 38) (some (33, true)) (.bin .eql (.t 37) (.c (.int .i64 0)))), (.op (some 39) none (.pick (.t 33) (.t 38) (.c (.bool
  false))))]) (.cond (.t 39) (.seq (.reg [(.op (some 4) none (.mv (.c (.int .i64 0)))), (.op (some 5) none (.mv (.c (.bool false))))]) .ret) .skip)) (.reg [(.op (some
  40) none (.mv (.t 6))), (.op (some 41) none (.mv (.t 8))), (.op (some 42) none (.mv (.t 1))), (.op (some 43) none (.mv (.t 7))), (.op (some 44) none (.iad 1 (.t 42)
  (.t 43))), (.op (some 45) none (.ld (.t 44))), (.op (some 46) none (.bin .mul (.t 41) (.t 45))), (.op (some 47) none (.bin .add (.t 40) (.t 46))), (.op (some 6) none
  (.mv (.t 47)))])))) (.reg [(.op (some 48) none (.bin .add (.t 26) (.c (.int .i64 1)))), (.op (some 26) none (.mv (.t 48)))]))))
def s43_0 (S : Sys) (e : Fe) (H : Heap) (Q : Kx) : Prop := run S (.bin .lss (.c (e 26)) (.c (e 25))) [] H fun t27_21 H => jn (sq (fun e23 H => jn (sq (fun e25 H => run S
  (.bin .add (.c (e25 26)) (.c (.int .i64 1))) [] H fun t48_26 H => Q .normal (upd (upd e25 48 t48_26) 26 t48_26) H) Q) fun Q24 => run S (.iad 1 (.c (e23 24)) (.c (e23
  26))) [] H fun t29_27 H => run S (.ld (.c t29_27)) [] H fun t30_28 H => run S (.bin .gtr (.c t30_28) (.c (.int .i64 0))) [] H fun t32_29 H => gd t32_29 true (run S
  (.mv (.c (e23 1))) [] H) H fun t34_30 H => gd t32_29 true (run S (.mv (.c (e23 26))) [] H) H fun t35_31 H => gd t32_29 true (run S (.iad 1 (.c t34_30) (.c t35_31)) []
  H) H fun t36_32 H => gd t32_29 true (run S (.ld (.c t36_32)) [] H) H fun t37_33 H => gd t32_29 true (run S (.bin .eql (.c t37_33) (.c (.int .i64 0))) [] H) H fun
  t38_34 H => run S (.pick (.c t32_29) (.c t38_34) (.c (.bool false))) [] H fun t39_35 H => jn (blk 1 Q24) fun Q36 => jn (sq (fun e38 H => run S (.iad 1 (.c (e38 1)) (.c
  (e38 7))) [] H fun t44_39 H => run S (.ld (.c t44_39)) [] H fun t45_40 H => run S (.bin .mul (.c (e38 8)) (.c t45_40)) [] H fun t46_41 H => run S (.bin .add (.c (e38
  6)) (.c t46_41)) [] H fun t47_42 H => Q36 .normal (upd (upd (upd (upd (upd (upd (upd (upd (upd e38 40 (e38 6)) 41 (e38 8)) 42 (e38 1)) 43 (e38 7)) 44 t44_39) 45
  t45_40) 46 t46_41) 47 t47_42) 6 t47_42) H) Q36) fun Q37 => cnd t39_35 (fun Q43 => Q43 .ret (upd (upd (upd (upd (upd (upd (upd (upd (upd (upd (upd (upd (upd (upd (upd
  (upd e23 28 (e23 26)) 29 t29_27) 30 t30_28) 7 (e23 26)) 8 t30_28) 31 t30_28) 32 t32_29) 33 t32_29) 34 t34_30) 35 t35_31) 36 t36_32) 37 t37_33) 38 t38_34) 39 t39_35) 4
  (.int .i64 0)) 5 (.bool false)) H) (fun Q44 => Q44 .normal (upd (upd (upd (upd (upd (upd (upd (upd (upd (upd (upd (upd (upd (upd e23 28 (e23 26)) 29 t29_27) 30 t30_28)
  7 (e23 26)) 8 t30_28) 31 t30_28) 32 t32_29) 33 t32_29) 34 t34_30) 35 t35_31) 36 t36_32) 37 t37_33) 38 t38_34) 39 t39_35) H) Q37) Q) fun Q22 => cnd t27_21 (fun Q45 =>
  Q45 .normal (upd e 27 t27_21) H) (fun Q46 => Q46 (.exit 0) (upd e 27 t27_21) H) Q22
theorem h43_0 (S : Sys) (e : Fe) (H : Heap) (Q : Kx) : wpC S b43_0 e H Q = s43_0 S e H Q := by kernel_rfl
theorem l43_0 (S : Sys) {Q : Kx} (I : Nat → Fe → Heap → Prop) (d : Nat) {e0 : Fe} {H : Heap} (h0 : I d e0 H) (hr : ∀ (d : Nat) (e : Fe) (H : Heap), I d e H → s43_0 S e H
  (sq (fun e' H' => ∃ d', d' < d ∧ I d' e' H') Q)) : WL S b43_0 e0 H Q := WL_inv I d h0 fun d e H hi => (h43_0 S e H _).mpr (hr d e H hi)
theorem u43_0 (S : Sys) {Q : Kx} {e : Fe} {H : Heap} (h : s43_0 S e H (sq (fun e' H' => WL S b43_0 e' H' Q) Q)) : WL S b43_0 e H Q := WL_once ((h43_0 S e H _).mpr h)
def s43 (S : Sys) (a0 a1 : Value) (H : Heap) (R : Kv) : Prop := run S (.call 87 [(.c a0)]) [] H fun t10_1 H => run S (.un .not (.c t10_1)) [] H fun t11_2 H => gd t11_2
  false (run S (.mv (.c a1)) [] H) H fun t13_3 H => gd t11_2 false (run S (.lenL (.c t13_3)) [] H) H fun t14_4 H => gd t11_2 false (run S (.mv (.c a0)) [] H) H fun t15_5
  H => gd t11_2 false (run S (.lenL (.c t15_5)) [] H) H fun t16_6 H => gd t11_2 false (run S (.bin .lss (.c t14_4) (.c t16_6)) [] H) H fun t17_7 H => run S (.pick (.c
  t11_2) (.c (.bool true)) (.c t17_7)) [] H fun t18_8 H => gd t18_8 false (run S (.mv (.c a1)) [] H) H fun t20_9 H => gd t18_8 false (run S (.call 92 [(.c t20_9)]) [] H)
  H fun t21_10 H => gd t18_8 false (run S (.un .not (.c t21_10)) [] H) H fun t22_11 H => run S (.pick (.c t18_8) (.c (.bool true)) (.c t22_11)) [] H fun t23_12 H => jn
  (sq (fun e14 H => run S (.lenL (.c (e14 0))) [] H fun t25_15 H => jn (sq (fun e17 H => R (tup [(e17 6), (.bool true)]) H) (fn [(.t 4), (.t 5)] R)) fun Q16 => jn (blk 0
  Q16) fun Q18 => WL S b43_0 (upd (upd (upd (upd e14 6 (.int .i64 0)) 24 (e14 0)) 25 t25_15) 26 (.int .i64 0)) H Q18) (fn [(.t 4), (.t 5)] R)) fun Q13 => cnd t23_12 (fun
  Q19 => Q19 .ret (upd (upd (upd (upd (upd (upd (upd (upd (upd (upd (upd (upd (upd (upd (upd (upd (upd (upd (upd (Env.get [a0, a1]) 4 (.int .i64 0)) 5 (.bool false)) 9
  a0) 10 t10_1) 11 t11_2) 12 t11_2) 13 t13_3) 14 t14_4) 15 t15_5) 16 t16_6) 17 t17_7) 18 t18_8) 19 t18_8) 20 t20_9) 21 t21_10) 22 t22_11) 23 t23_12) 4 (.int .i64 0)) 5
  (.bool false)) H) (fun Q20 => Q20 .normal (upd (upd (upd (upd (upd (upd (upd (upd (upd (upd (upd (upd (upd (upd (upd (upd (upd (Env.get [a0, a1]) 4 (.int .i64 0)) 5
  (.bool false)) 9 a0) 10 t10_1) 11 t11_2) 12 t11_2) 13 t13_3) 14 t14_4) 15 t15_5) 16 t16_6) 17 t17_7) 18 t18_8) 19 t18_8) 20 t20_9) 21 t21_10) 22 t22_11) 23 t23_12) H)
  Q13
theorem h43 (S : Sys) (a0 a1 : Value) (H : Heap) (R : Kv) : wpC S k43.body (Env.get [a0, a1]) H (fn [(.t 4), (.t 5)] R) = s43 S a0 a1 H R := by kernel_rfl
theorem w43 {S : Sys} (hR : S.R 43 = none) (hF : S.F 43 = some k43) (a0 a1 : Value) {H : Heap} {R : Kv} (h : s43 S a0 a1 H R) : Wf S 43 [a0, a1] H R := Wf_sh hR hF ((h43
  S a0 a1 H R).mpr h)
def b44_3 : KCode := (.seq (.seq (.reg [(.op (some 47) none (.mv (.t 7))), (.op (some 48) none (.bin .gtr (.t 47) (.c (.int .i64 0)))), (.op (some 49) none (.mv (.t
  48))), (.op (some 50) (some (49, true)) (.mv (.t 3))), (.op (some 51) (some (49, true)) (.mv (.t 7))), (.op (some 52) (some (49, true)) (.iad 1 (.t 50) (.t 51))), (.op
  (some 53) (some (49, true)) (.ld (.t 52))), (.op (some 54) (some (49, true)) (.mv (.t 3))), (.op (some 55) (some (49, true)) (.mv (.t 7))), (.op (some 56) (some (49,
  true)) (.bin .sub (.t 55) (.c (.int .i64 1)))), (.op (some 57) (some (49, true)) (.iad 1 (.t 54) (.t 56))), (.op (some 58) (some (49, true)) (.ld (.t 57))), (.op (some
  59) (some (49, true)) (.bin .gtr (.t 53) (.t 58))), (.op (some 60) none (.pick (.t 49) (.t 59) (.c (.bool false))))]) (.cond (.t 60) .skip (.exit 4))) (.seq (.block 5
  (.seq (.reg [(.op (some 63) none (.mv (.t 3))), (.op (some 64) none (.mv (.t 7))), (.op (some 65) none (.iad 1 (.t 63) (.t 64))), (.op (some 66) none (.ld (.t 65))),
  (.op (some 8) none (.mv (.t 66)))]) (.seq (.reg [(.op (some 67) none (.mv (.t 3))), (.op (some 68) none (.mv (.t 7))), (.op (some 69) none (.mv (.t 3))), (.op (some
  70) none (.mv (.t 7))), (.op (some 71) none (.bin .sub (.t 70) (.c (.int .i64 1)))), (.op (some 72) none (.iad 1 (.t 69) (.t 71))), (.op (some 73) none (.ld (.t 72))),
  (.op (some 74) none (.iad 1 (.t 67) (.t 68))), (.op none none (.st (.t 74) (.t 73)))]) (.reg [(.op (some 75) none (.mv (.t 3))), (.op (some 76) none (.mv (.t 7))),
  (.op (some 77) none (.bin .sub (.t 76) (.c (.int .i64 1)))), (.op (some 78) none (.mv (.t 8))), (.op (some 79) none (.iad 1 (.t 75) (.t 77))), (.op none none (.st (.t
  79) (.t 78)))])))) (.reg [(.op (some 61) none (.mv (.t 7))), (.op (some 62) none (.bin .sub (.t 61) (.c (.int .i64 1)))), (.op (some 7) none (.mv (.t 62)))])))
def s44_3 (S : Sys) (e : Fe) (H : Heap) (Q : Kx) : Prop := run S (.bin .gtr (.c (e 7)) (.c (.int .i64 0))) [] H fun t48_75 H => gd t48_75 true (run S (.mv (.c (e 3))) []
  H) H fun t50_76 H => gd t48_75 true (run S (.mv (.c (e 7))) [] H) H fun t51_77 H => gd t48_75 true (run S (.iad 1 (.c t50_76) (.c t51_77)) [] H) H fun t52_78 H => gd
  t48_75 true (run S (.ld (.c t52_78)) [] H) H fun t53_79 H => gd t48_75 true (run S (.mv (.c (e 3))) [] H) H fun t54_80 H => gd t48_75 true (run S (.mv (.c (e 7))) []
  H) H fun t55_81 H => gd t48_75 true (run S (.bin .sub (.c t55_81) (.c (.int .i64 1))) [] H) H fun t56_82 H => gd t48_75 true (run S (.iad 1 (.c t54_80) (.c t56_82)) []
  H) H fun t57_83 H => gd t48_75 true (run S (.ld (.c t57_83)) [] H) H fun t58_84 H => gd t48_75 true (run S (.bin .gtr (.c t53_79) (.c t58_84)) [] H) H fun t59_85 H =>
  run S (.pick (.c t48_75) (.c t59_85) (.c (.bool false))) [] H fun t60_86 H => jn (sq (fun e88 H => jn (sq (fun e90 H => run S (.bin .sub (.c (e90 7)) (.c (.int .i64
  1))) [] H fun t62_91 H => Q .normal (upd (upd (upd e90 61 (e90 7)) 62 t62_91) 7 t62_91) H) Q) fun Q89 => run S (.iad 1 (.c (e88 3)) (.c (e88 7))) [] H fun t65_92 H =>
  run S (.ld (.c t65_92)) [] H fun t66_93 H => run S (.bin .sub (.c (e88 7)) (.c (.int .i64 1))) [] H fun t71_94 H => run S (.iad 1 (.c (e88 3)) (.c t71_94)) [] H fun
  t72_95 H => run S (.ld (.c t72_95)) [] H fun t73_96 H => run S (.iad 1 (.c (e88 3)) (.c (e88 7))) [] H fun t74_97 H => run S (.st (.c t74_97) (.c t73_96)) [] H fun _ H
  => run S (.bin .sub (.c (e88 7)) (.c (.int .i64 1))) [] H fun t77_98 H => run S (.iad 1 (.c (e88 3)) (.c t77_98)) [] H fun t79_99 H => run S (.st (.c t79_99) (.c
  t66_93)) [] H fun _ H => Q89 .normal (upd (upd (upd (upd (upd (upd (upd (upd (upd (upd (upd (upd (upd (upd (upd (upd (upd (upd e88 63 (e88 3)) 64 (e88 7)) 65 t65_92)
  66 t66_93) 8 t66_93) 67 (e88 3)) 68 (e88 7)) 69 (e88 3)) 70 (e88 7)) 71 t71_94) 72 t72_95) 73 t73_96) 74 t74_97) 75 (e88 3)) 76 (e88 7)) 77 t77_98) 78 t66_93) 79
  t79_99) H) Q) fun Q87 => cnd t60_86 (fun Q100 => Q100 .normal (upd (upd (upd (upd (upd (upd (upd (upd (upd (upd (upd (upd (upd (upd e 47 (e 7)) 48 t48_75) 49 t48_75)
  50 t50_76) 51 t51_77) 52 t52_78) 53 t53_79) 54 t54_80) 55 t55_81) 56 t56_82) 57 t57_83) 58 t58_84) 59 t59_85) 60 t60_86) H) (fun Q101 => Q101 (.exit 4) (upd (upd (upd
  (upd (upd (upd (upd (upd (upd (upd (upd (upd (upd (upd e 47 (e 7)) 48 t48_75) 49 t48_75) 50 t50_76) 51 t51_77) 52 t52_78) 53 t53_79) 54 t54_80) 55 t55_81) 56 t56_82)
  57 t57_83) 58 t58_84) 59 t59_85) 60 t60_86) H) Q87
theorem h44_3 (S : Sys) (e : Fe) (H : Heap) (Q : Kx) : wpC S b44_3 e H Q = s44_3 S e H Q := by kernel_rfl
theorem l44_3 (S : Sys) {Q : Kx} (I : Nat → Fe → Heap → Prop) (d : Nat) {e0 : Fe} {H : Heap} (h0 : I d e0 H) (hr : ∀ (d : Nat) (e : Fe) (H : Heap), I d e H → s44_3 S e H
  (sq (fun e' H' => ∃ d', d' < d ∧ I d' e' H') Q)) : WL S b44_3 e0 H Q := WL_inv I d h0 fun d e H hi => (h44_3 S e H _).mpr (hr d e H hi)
theorem u44_3 (S : Sys) {Q : Kx} {e : Fe} {H : Heap} (h : s44_3 S e H (sq (fun e' H' => WL S b44_3 e' H' Q) Q)) : WL S b44_3 e H Q := WL_once ((h44_3 S e H _).mpr h)
def b44_2 : KCode := (.seq (.seq (.reg [(.op (some 11) none (.mv (.t 4))), (.op (some 12) none (.mv (.t 0))), (.op (some 13) none (.lenL (.t 12))), (.op (some 14) none
  (.bin .lss (.t 11) (.t 13)))]) (.cond (.t 14) .skip (.exit 0))) (.seq (.block 1 (.seq (.reg [(.op (some 17) none (.mv (.t 0))), (.op (some 18) none (.mv (.t 4))), (.op
  (some 19) none (.iad 1 (.t 17) (.t 18))), (.op (some 20) none (.ld (.t 19))), (.op (some 21) none (.bin .gtr (.t 20) (.c (.int .i64 0))))]) (.cond (.t 21) (.reg [(.op
  (some 22) none (.mv (.t 3))), (.op (some 23) none (.mv (.t 0))), (.op (some 24) none (.mv (.t 4))), (.op (some 25) none (.iad 1 (.t 23) (.t 24))), (.op (some 26) none
  (.ld (.t 25))), (.op (some 27) none (.bsl 3 1 [(.int .i64 0)] [(0, (1, (.t 26)))])), (.op (some 28) none (.app 3 1 8 (.t 22) (.t 27))), (.op (some 3) none (.mv (.t
  28)))]) .skip))) (.reg [(.op (some 15) none (.mv (.t 4))), (.op (some 16) none (.bin .add (.t 15) (.c (.int .i64 1)))), (.op (some 4) none (.mv (.t 16)))])))
def s44_2 (S : Sys) (e : Fe) (H : Heap) (Q : Kx) : Prop := run S (.lenL (.c (e 0))) [] H fun t13_56 H => run S (.bin .lss (.c (e 4)) (.c t13_56)) [] H fun t14_57 H => jn
  (sq (fun e59 H => jn (sq (fun e61 H => run S (.bin .add (.c (e61 4)) (.c (.int .i64 1))) [] H fun t16_62 H => Q .normal (upd (upd (upd e61 15 (e61 4)) 16 t16_62) 4
  t16_62) H) Q) fun Q60 => run S (.iad 1 (.c (e59 0)) (.c (e59 4))) [] H fun t19_63 H => run S (.ld (.c t19_63)) [] H fun t20_64 H => run S (.bin .gtr (.c t20_64) (.c
  (.int .i64 0))) [] H fun t21_65 H => jn (blk 1 Q60) fun Q66 => cnd t21_65 (fun Q67 => run S (.iad 1 (.c (e59 0)) (.c (e59 4))) [] H fun t25_69 H => run S (.ld (.c
  t25_69)) [] H fun t26_70 H => run S (.bsl 3 1 [(.int .i64 0)] [(0, (1, (.c t26_70)))]) [] H fun t27_71 H => run S (.app 3 1 8 (.c (e59 3)) (.c t27_71)) [] H fun t28_72
  H => Q67 .normal (upd (upd (upd (upd (upd (upd (upd (upd (upd (upd (upd (upd (upd e59 17 (e59 0)) 18 (e59 4)) 19 t19_63) 20 t20_64) 21 t21_65) 22 (e59 3)) 23 (e59 0))
  24 (e59 4)) 25 t25_69) 26 t26_70) 27 t27_71) 28 t28_72) 3 t28_72) H) (fun Q68 => Q68 .normal (upd (upd (upd (upd (upd e59 17 (e59 0)) 18 (e59 4)) 19 t19_63) 20 t20_64)
  21 t21_65) H) Q66) Q) fun Q58 => cnd t14_57 (fun Q73 => Q73 .normal (upd (upd (upd (upd e 11 (e 4)) 12 (e 0)) 13 t13_56) 14 t14_57) H) (fun Q74 => Q74 (.exit 0) (upd
  (upd (upd (upd e 11 (e 4)) 12 (e 0)) 13 t13_56) 14 t14_57) H) Q58
theorem h44_2 (S : Sys) (e : Fe) (H : Heap) (Q : Kx) : wpC S b44_2 e H Q = s44_2 S e H Q := by kernel_rfl
theorem l44_2 (S : Sys) {Q : Kx} (I : Nat → Fe → Heap → Prop) (d : Nat) {e0 : Fe} {H : Heap} (h0 : I d e0 H) (hr : ∀ (d : Nat) (e : Fe) (H : Heap), I d e H → s44_2 S e H
  (sq (fun e' H' => ∃ d', d' < d ∧ I d' e' H') Q)) : WL S b44_2 e0 H Q := WL_inv I d h0 fun d e H hi => (h44_2 S e H _).mpr (hr d e H hi)
theorem u44_2 (S : Sys) {Q : Kx} {e : Fe} {H : Heap} (h : s44_2 S e H (sq (fun e' H' => WL S b44_2 e' H' Q) Q)) : WL S b44_2 e H Q := WL_once ((h44_2 S e H _).mpr h)
def b44_1 : KCode := (.seq (.seq (.reg [(.op (some 40) none (.mv (.t 6))), (.op (some 41) none (.mv (.t 3))), (.op (some 42) none (.lenL (.t 41))), (.op (some 43) none
  (.bin .lss (.t 40) (.t 42)))]) (.cond (.t 43) .skip (.exit 2))) (.seq (.block 3 (.seq (.reg [(.op (some 46) none (.mv (.t 6))), (.op (some 7) none (.mv (.t 46)))])
  (.block 4 (.loop (.seq (.seq (.reg [(.op (some 47) none (.mv (.t 7))), (.op (some 48) none (.bin .gtr (.t 47) (.c (.int .i64 0)))), (.op (some 49) none (.mv (.t 48))),
  (.op (some 50) (some (49, true)) (.mv (.t 3))), (.op (some 51) (some (49, true)) (.mv (.t 7))), (.op (some 52) (some (49, true)) (.iad 1 (.t 50) (.t 51))), (.op (some
  53) (some (49, true)) (.ld (.t 52))), (.op (some 54) (some (49, true)) (.mv (.t 3))), (.op (some 55) (some (49, true)) (.mv (.t 7))), (.op (some 56) (some (49, true))
  (.bin .sub (.t 55) (.c (.int .i64 1)))), (.op (some 57) (some (49, true)) (.iad 1 (.t 54) (.t 56))), (.op (some 58) (some (49, true)) (.ld (.t 57))), (.op (some 59)
  (some (49, true)) (.bin .gtr (.t 53) (.t 58))), (.op (some 60) none (.pick (.t 49) (.t 59) (.c (.bool false))))]) (.cond (.t 60) .skip (.exit 4))) (.seq (.block 5
  (.seq (.reg [(.op (some 63) none (.mv (.t 3))), (.op (some 64) none (.mv (.t 7))), (.op (some 65) none (.iad 1 (.t 63) (.t 64))), (.op (some 66) none (.ld (.t 65))),
  (.op (some 8) none (.mv (.t 66)))]) (.seq (.reg [(.op (some 67) none (.mv (.t 3))), (.op (some 68) none (.mv (.t 7))), (.op (some 69) none (.mv (.t 3))), (.op (some
  70) none (.mv (.t 7))), (.op (some 71) none (.bin .sub (.t 70) (.c (.int .i64 1)))), (.op (some 72) none (.iad 1 (.t 69) (.t 71))), (.op (some 73) none (.ld (.t 72))),
  (.op (some 74) none (.iad 1 (.t 67) (.t 68))), (.op none none (.st (.t 74) (.t 73)))]) (.reg [(.op (some 75) none (.mv (.t 3))), (.op (some 76) none (.mv (.t 7))),
  (.op (some 77) none (.bin .sub (.t 76) (.c (.int .i64 1)))), (.op (some 78) none (.mv (.t 8))), (.op (some 79) none (.iad 1 (.t 75) (.t 77))), (.op none none (.st (.t
  79) (.t 78)))])))) (.reg [(.op (some 61) none (.mv (.t 7))), (.op (some 62) none (.bin .sub (.t 61) (.c (.int .i64 1)))), (.op (some 7) none (.mv (.t 62)))])))))))
  (.reg [(.op (some 44) none (.mv (.t 6))), (.op (some 45) none (.bin .add (.t 44) (.c (.int .i64 1)))), (.op (some 6) none (.mv (.t 45)))])))
def s44_1 (S : Sys) (e : Fe) (H : Heap) (Q : Kx) : Prop := run S (.lenL (.c (e 3))) [] H fun t42_45 H => run S (.bin .lss (.c (e 6)) (.c t42_45)) [] H fun t43_46 H => jn
  (sq (fun e48 H => jn (sq (fun e50 H => run S (.bin .add (.c (e50 6)) (.c (.int .i64 1))) [] H fun t45_51 H => Q .normal (upd (upd (upd e50 44 (e50 6)) 45 t45_51) 6
  t45_51) H) Q) fun Q49 => jn (blk 3 Q49) fun Q52 => jn (blk 4 Q52) fun Q53 => WL S b44_3 (upd (upd e48 46 (e48 6)) 7 (e48 6)) H Q53) Q) fun Q47 => cnd t43_46 (fun Q54
  => Q54 .normal (upd (upd (upd (upd e 40 (e 6)) 41 (e 3)) 42 t42_45) 43 t43_46) H) (fun Q55 => Q55 (.exit 2) (upd (upd (upd (upd e 40 (e 6)) 41 (e 3)) 42 t42_45) 43
  t43_46) H) Q47
theorem h44_1 (S : Sys) (e : Fe) (H : Heap) (Q : Kx) : wpC S b44_1 e H Q = s44_1 S e H Q := by kernel_rfl
theorem l44_1 (S : Sys) {Q : Kx} (I : Nat → Fe → Heap → Prop) (d : Nat) {e0 : Fe} {H : Heap} (h0 : I d e0 H) (hr : ∀ (d : Nat) (e : Fe) (H : Heap), I d e H → s44_1 S e H
  (sq (fun e' H' => ∃ d', d' < d ∧ I d' e' H') Q)) : WL S b44_1 e0 H Q := WL_inv I d h0 fun d e H hi => (h44_1 S e H _).mpr (hr d e H hi)
theorem u44_1 (S : Sys) {Q : Kx} {e : Fe} {H : Heap} (h : s44_1 S e H (sq (fun e' H' => WL S b44_1 e' H' Q) Q)) : WL S b44_1 e H Q := WL_once ((h44_1 S e H _).mpr h)
def b44_0 : KCode := (.seq (.seq (.reg [(.op (some 80) none (.mv (.t 10))), (.op (some 81) none (.mv (.t 3))), (.op (some 82) none (.lenL (.t 81))), (.op (some 83) none
  (.bin .lss (.t 80) (.t 82)))]) (.cond (.t 83) .skip (.exit 6))) (.seq (.block 7 (.seq (.reg [(.op (some 86) none (.mv (.t 9))), (.op (some 87) none (.mv (.t 3))), (.op
  (some 88) none (.mv (.t 10))), (.op (some 89) none (.iad 1 (.t 87) (.t 88))), (.op (some 90) none (.ld (.t 89))), (.op (some 91) none (.mv (.t 5))), (.op (some 92)
  none (.bin .mul (.t 90) (.t 91))), (.op (some 93) none (.bin .add (.t 86) (.t 92))), (.op (some 9) none (.mv (.t 93)))]) (.seq (.reg [(.op (some 94) none (.mv (.t
  10))), (.op (some 95) none (.mv (.t 5))), (.op (some 96) none (.call 60 [(.t 95)])), (.op (some 97) none (.mv (.t 3))), (.op (some 98) none (.lenL (.t 97))), (.op
  (some 99) none (.bin .sub (.t 96) (.t 98))), (.op (some 100) none (.bin .lss (.t 94) (.t 99)))]) (.cond (.t 100) (.reg [(.op (some 101) none (.mv (.t 9))), (.op (some
  102) none (.mv (.t 3))), (.op (some 103) none (.mv (.t 10))), (.op (some 104) none (.iad 1 (.t 102) (.t 103))), (.op (some 105) none (.ld (.t 104))), (.op (some 106)
  none (.bin .sub (.t 101) (.t 105))), (.op (some 9) none (.mv (.t 106)))]) .skip)))) (.reg [(.op (some 84) none (.mv (.t 10))), (.op (some 85) none (.bin .add (.t 84)
  (.c (.int .i64 1)))), (.op (some 10) none (.mv (.t 85)))])))
def s44_0 (S : Sys) (e : Fe) (H : Heap) (Q : Kx) : Prop := run S (.lenL (.c (e 3))) [] H fun t82_22 H => run S (.bin .lss (.c (e 10)) (.c t82_22)) [] H fun t83_23 H =>
  jn (sq (fun e25 H => jn (sq (fun e27 H => run S (.bin .add (.c (e27 10)) (.c (.int .i64 1))) [] H fun t85_28 H => Q .normal (upd (upd (upd e27 84 (e27 10)) 85 t85_28)
  10 t85_28) H) Q) fun Q26 => run S (.iad 1 (.c (e25 3)) (.c (e25 10))) [] H fun t89_29 H => run S (.ld (.c t89_29)) [] H fun t90_30 H => run S (.bin .mul (.c t90_30)
  (.c (e25 5))) [] H fun t92_31 H => run S (.bin .add (.c (e25 9)) (.c t92_31)) [] H fun t93_32 H => run S (.call 60 [(.c (e25 5))]) [] H fun t96_33 H => run S (.lenL
  (.c (e25 3))) [] H fun t98_34 H => run S (.bin .sub (.c t96_33) (.c t98_34)) [] H fun t99_35 H => run S (.bin .lss (.c (e25 10)) (.c t99_35)) [] H fun t100_36 H => jn
  (blk 7 Q26) fun Q37 => cnd t100_36 (fun Q38 => run S (.iad 1 (.c (e25 3)) (.c (e25 10))) [] H fun t104_40 H => run S (.ld (.c t104_40)) [] H fun t105_41 H => run S
  (.bin .sub (.c t93_32) (.c t105_41)) [] H fun t106_42 H => Q38 .normal (upd (upd (upd (upd (upd (upd (upd (upd (upd (upd (upd (upd (upd (upd (upd (upd (upd (upd (upd
  (upd (upd (upd (upd e25 86 (e25 9)) 87 (e25 3)) 88 (e25 10)) 89 t89_29) 90 t90_30) 91 (e25 5)) 92 t92_31) 93 t93_32) 9 t93_32) 94 (e25 10)) 95 (e25 5)) 96 t96_33) 97
  (e25 3)) 98 t98_34) 99 t99_35) 100 t100_36) 101 t93_32) 102 (e25 3)) 103 (e25 10)) 104 t104_40) 105 t105_41) 106 t106_42) 9 t106_42) H) (fun Q39 => Q39 .normal (upd
  (upd (upd (upd (upd (upd (upd (upd (upd (upd (upd (upd (upd (upd (upd (upd e25 86 (e25 9)) 87 (e25 3)) 88 (e25 10)) 89 t89_29) 90 t90_30) 91 (e25 5)) 92 t92_31) 93
  t93_32) 9 t93_32) 94 (e25 10)) 95 (e25 5)) 96 t96_33) 97 (e25 3)) 98 t98_34) 99 t99_35) 100 t100_36) H) Q37) Q) fun Q24 => cnd t83_23 (fun Q43 => Q43 .normal (upd (upd
  (upd (upd e 80 (e 10)) 81 (e 3)) 82 t82_22) 83 t83_23) H) (fun Q44 => Q44 (.exit 6) (upd (upd (upd (upd e 80 (e 10)) 81 (e 3)) 82 t82_22) 83 t83_23) H) Q24
theorem h44_0 (S : Sys) (e : Fe) (H : Heap) (Q : Kx) : wpC S b44_0 e H Q = s44_0 S e H Q := by kernel_rfl
theorem l44_0 (S : Sys) {Q : Kx} (I : Nat → Fe → Heap → Prop) (d : Nat) {e0 : Fe} {H : Heap} (h0 : I d e0 H) (hr : ∀ (d : Nat) (e : Fe) (H : Heap), I d e H → s44_0 S e H
  (sq (fun e' H' => ∃ d', d' < d ∧ I d' e' H') Q)) : WL S b44_0 e0 H Q := WL_inv I d h0 fun d e H hi => (h44_0 S e H _).mpr (hr d e H hi)
theorem u44_0 (S : Sys) {Q : Kx} {e : Fe} {H : Heap} (h : s44_0 S e H (sq (fun e' H' => WL S b44_0 e' H' Q) Q)) : WL S b44_0 e H Q := WL_once ((h44_0 S e H _).mpr h)
def s44 (S : Sys) (a0 : Value) (H : Heap) (R : Kv) : Prop := jn (sq (fun e2 H => run S (.lenL (.c (e2 3))) [] H fun t30_3 H => run S (.bin .eql (.c t30_3) (.c (.int .i64
  1))) [] H fun t31_4 H => jn (sq (fun e6 H => run S (.lenL (.c (e6 3))) [] H fun t36_7 H => run S (.bin .sub (.c t36_7) (.c (.int .i64 1))) [] H fun t37_8 H => run S
  (.cvt .u32 (.c t37_8)) [] H fun t38_9 H => run S (.call 93 [(.c t38_9)]) [] H fun t39_10 H => jn (sq (fun e12 H => jn (sq (fun e14 H => R (e14 9) H) (fn [(.t 2)] R))
  fun Q13 => jn (blk 6 Q13) fun Q15 => WL S b44_0 (upd (upd e12 9 (.int .i64 0)) 10 (.int .i64 0)) H Q15) (fn [(.t 2)] R)) fun Q11 => jn (blk 2 Q11) fun Q16 => WL S
  b44_1 (upd (upd (upd (upd (upd (upd (upd e6 35 (e6 3)) 36 t36_7) 37 t37_8) 38 t38_9) 39 t39_10) 5 t39_10) 6 (.int .i64 0)) H Q16) (fn [(.t 2)] R)) fun Q5 => cnd t31_4
  (fun Q17 => run S (.iad 1 (.c (e2 3)) (.c (.int .i64 0))) [] H fun t33_19 H => run S (.ld (.c t33_19)) [] H fun t34_20 H => Q17 .ret (upd (upd (upd (upd (upd (upd (upd
  e2 29 (e2 3)) 30 t30_3) 31 t31_4) 32 (e2 3)) 33 t33_19) 34 t34_20) 2 t34_20) H) (fun Q18 => Q18 .normal (upd (upd (upd e2 29 (e2 3)) 30 t30_3) 31 t31_4) H) Q5) (fn
  [(.t 2)] R)) fun Q1 => jn (blk 0 Q1) fun Q21 => WL S b44_2 (upd (upd (upd (Env.get [a0]) 2 (.int .i64 0)) 3 (.slice none 0 0)) 4 (.int .i64 0)) H Q21
theorem h44 (S : Sys) (a0 : Value) (H : Heap) (R : Kv) : wpC S k44.body (Env.get [a0]) H (fn [(.t 2)] R) = s44 S a0 H R := by kernel_rfl
theorem w44 {S : Sys} (hR : S.R 44 = none) (hF : S.F 44 = some k44) (a0 : Value) {H : Heap} {R : Kv} (h : s44 S a0 H R) : Wf S 44 [a0] H R := Wf_sh hR hF ((h44 S a0 H
  R).mpr h)
def s49 (S : Sys) (a0 : Value) (H : Heap) (R : Kv) : Prop := run S (.build [(.string (bs [])), (.bool false)] [(0, (1, (.c a0)))]) [] H fun t4_1 H => run S (.box 134 (.c
  t4_1)) [] H fun t5_2 H => R t5_2 H
theorem h49 (S : Sys) (a0 : Value) (H : Heap) (R : Kv) : wpC S k49.body (Env.get [a0]) H (fn [(.t 2)] R) = s49 S a0 H R := by kernel_rfl
theorem w49 {S : Sys} (hR : S.R 49 = none) (hF : S.F 49 = some k49) (a0 : Value) {H : Heap} {R : Kv} (h : s49 S a0 H R) : Wf S 49 [a0] H R := Wf_sh hR hF ((h49 S a0 H
  R).mpr h)
def s57 (S : Sys) (a0 : Value) (H : Heap) (R : Kv) : Prop := run S (.call 101 [(.c a0)]) [] H fun t4_1 H => jn (sq (fun e3 H => run S (.nck (.c (e3 0))) [] H fun t7_4 H
  => run S (.fad 0 (.c t7_4)) [] H fun t8_5 H => run S (.ld (.c t8_5)) [] H fun t9_6 H => run S (.lenS (.c t9_6)) [] H fun t10_7 H => run S (.call 102 [(.c (e3 0)), (.c
  t10_7)]) [] H fun t11_8 H => R t11_8 H) (fn [(.t 2)] R)) fun Q2 => cnd t4_1 (fun Q9 => Q9 .ret (upd (upd (upd (upd (Env.get [a0]) 2 (.string (bs []))) 3 a0) 4 t4_1) 2
  (.string (bs []))) H) (fun Q10 => Q10 .normal (upd (upd (upd (Env.get [a0]) 2 (.string (bs []))) 3 a0) 4 t4_1) H) Q2
theorem h57 (S : Sys) (a0 : Value) (H : Heap) (R : Kv) : wpC S k57.body (Env.get [a0]) H (fn [(.t 2)] R) = s57 S a0 H R := by kernel_rfl
theorem w57 {S : Sys} (hR : S.R 57 = none) (hF : S.F 57 = some k57) (a0 : Value) {H : Heap} {R : Kv} (h : s57 S a0 H R) : Wf S 57 [a0] H R := Wf_sh hR hF ((h57 S a0 H
  R).mpr h)
def b59_0 : KCode := (.seq (.seq (.reg [(.op (some 4) none (.mv (.t 3))), (.op (some 5) none (.mv (.t 0))), (.op (some 6) none (.lenL (.t 5))), (.op (some 7) none (.bin
  .lss (.t 4) (.t 6)))]) (.cond (.t 7) .skip (.exit 0))) (.seq (.block 1 (.seq (.reg [(.op (some 10) none (.mv (.t 0))), (.op (some 11) none (.mv (.t 3))), (.op (some
  12) none (.iad 1 (.t 10) (.t 11))), (.op (some 13) none (.ld (.t 12))), (.op (some 14) none (.bin .lss (.t 13) (.c (.int .i64 0)))), (.op (some 15) none (.mv (.t
  14))), (.op (some 16) (some (15, false)) (.mv (.t 0))), (.op (some 17) (some (15, false)) (.mv (.t 3))), (.op (some 18) (some (15, false)) (.iad 1 (.t 16) (.t 17))),
  (.op (some 19) (some (15, false)) (.ld (.t 18))), (.op (some 20) (some (15, false)) (.bin .gtr (.t 19) (.c (.int .i64 11)))), (.op (some 21) none (.pick (.t 15) (.c
  (.bool true)) (.t 20)))]) (.cond (.t 21) (.seq (.reg [(.op (some 2) none (.mv (.c (.bool false))))]) .ret) .skip))) (.reg [(.op (some 8) none (.mv (.t 3))), (.op (some
  9) none (.bin .add (.t 8) (.c (.int .i64 1)))), (.op (some 3) none (.mv (.t 9)))])))
def s59_0 (S : Sys) (e : Fe) (H : Heap) (Q : Kx) : Prop := run S (.lenL (.c (e 0))) [] H fun t6_6 H => run S (.bin .lss (.c (e 3)) (.c t6_6)) [] H fun t7_7 H => jn (sq
  (fun e9 H => jn (sq (fun e11 H => run S (.bin .add (.c (e11 3)) (.c (.int .i64 1))) [] H fun t9_12 H => Q .normal (upd (upd (upd e11 8 (e11 3)) 9 t9_12) 3 t9_12) H) Q)
  fun Q10 => run S (.iad 1 (.c (e9 0)) (.c (e9 3))) [] H fun t12_13 H => run S (.ld (.c t12_13)) [] H fun t13_14 H => run S (.bin .lss (.c t13_14) (.c (.int .i64 0))) []
  H fun t14_15 H => gd t14_15 false (run S (.mv (.c (e9 0))) [] H) H fun t16_16 H => gd t14_15 false (run S (.mv (.c (e9 3))) [] H) H fun t17_17 H => gd t14_15 false
  (run S (.iad 1 (.c t16_16) (.c t17_17)) [] H) H fun t18_18 H => gd t14_15 false (run S (.ld (.c t18_18)) [] H) H fun t19_19 H => gd t14_15 false (run S (.bin .gtr (.c
  t19_19) (.c (.int .i64 11))) [] H) H fun t20_20 H => run S (.pick (.c t14_15) (.c (.bool true)) (.c t20_20)) [] H fun t21_21 H => jn (blk 1 Q10) fun Q22 => cnd t21_21
  (fun Q23 => Q23 .ret (upd (upd (upd (upd (upd (upd (upd (upd (upd (upd (upd (upd (upd e9 10 (e9 0)) 11 (e9 3)) 12 t12_13) 13 t13_14) 14 t14_15) 15 t14_15) 16 t16_16)
  17 t17_17) 18 t18_18) 19 t19_19) 20 t20_20) 21 t21_21) 2 (.bool false)) H) (fun Q24 => Q24 .normal (upd (upd (upd (upd (upd (upd (upd (upd (upd (upd (upd (upd e9 10
  (e9 0)) 11 (e9 3)) 12 t12_13) 13 t13_14) 14 t14_15) 15 t14_15) 16 t16_16) 17 t17_17) 18 t18_18) 19 t19_19) 20 t20_20) 21 t21_21) H) Q22) Q) fun Q8 => cnd t7_7 (fun Q25
  => Q25 .normal (upd (upd (upd (upd e 4 (e 3)) 5 (e 0)) 6 t6_6) 7 t7_7) H) (fun Q26 => Q26 (.exit 0) (upd (upd (upd (upd e 4 (e 3)) 5 (e 0)) 6 t6_6) 7 t7_7) H) Q8
theorem h59_0 (S : Sys) (e : Fe) (H : Heap) (Q : Kx) : wpC S b59_0 e H Q = s59_0 S e H Q := by kernel_rfl
theorem l59_0 (S : Sys) {Q : Kx} (I : Nat → Fe → Heap → Prop) (d : Nat) {e0 : Fe} {H : Heap} (h0 : I d e0 H) (hr : ∀ (d : Nat) (e : Fe) (H : Heap), I d e H → s59_0 S e H
  (sq (fun e' H' => ∃ d', d' < d ∧ I d' e' H') Q)) : WL S b59_0 e0 H Q := WL_inv I d h0 fun d e H hi => (h59_0 S e H _).mpr (hr d e H hi)
theorem u59_0 (S : Sys) {Q : Kx} {e : Fe} {H : Heap} (h : s59_0 S e H (sq (fun e' H' => WL S b59_0 e' H' Q) Q)) : WL S b59_0 e H Q := WL_once ((h59_0 S e H _).mpr h)
def s59 (S : Sys) (a0 : Value) (H : Heap) (R : Kv) : Prop := jn (sq (fun e2 H => run S (.lenL (.c (e2 0))) [] H fun t23_3 H => run S (.bin .leq (.c t23_3) (.c (.int .i64
  256))) [] H fun t24_4 H => R t24_4 H) (fn [(.t 2)] R)) fun Q1 => jn (blk 0 Q1) fun Q5 => WL S b59_0 (upd (upd (Env.get [a0]) 2 (.bool false)) 3 (.int .i64 0)) H Q5
theorem h59 (S : Sys) (a0 : Value) (H : Heap) (R : Kv) : wpC S k59.body (Env.get [a0]) H (fn [(.t 2)] R) = s59 S a0 H R := by kernel_rfl
theorem w59 {S : Sys} (hR : S.R 59 = none) (hF : S.F 59 = some k59) (a0 : Value) {H : Heap} {R : Kv} (h : s59 S a0 H R) : Wf S 59 [a0] H R := Wf_sh hR hF ((h59 S a0 H
  R).mpr h)
def b60_0 : KCode := (.seq (.seq (.reg [(.op (some 5) none (.mv (.t 4))), (.op (some 6) none (.mv (.t 0))), (.op (some 7) none (.bin .lss (.t 5) (.t 6)))]) (.cond (.t 7)
  .skip (.exit 0))) (.seq (.block 1 (.reg [(.op (some 10) none (.mv (.t 3))), (.op (some 11) none (.bin .mul (.t 10) (.c (.int .i64 2)))), (.op (some 3) none (.mv (.t
  11)))])) (.reg [(.op (some 8) none (.mv (.t 4))), (.op (some 9) none (.bin .add (.t 8) (.c (.int .i64 1)))), (.op (some 4) none (.mv (.t 9)))])))
def s60_0 (S : Sys) (e : Fe) (H : Heap) (Q : Kx) : Prop := run S (.bin .lss (.c (e 4)) (.c (e 0))) [] H fun t7_4 H => jn (sq (fun e6 H => jn (sq (fun e8 H => run S (.bin
  .add (.c (e8 4)) (.c (.int .i64 1))) [] H fun t9_9 H => Q .normal (upd (upd (upd e8 8 (e8 4)) 9 t9_9) 4 t9_9) H) Q) fun Q7 => run S (.bin .mul (.c (e6 3)) (.c (.int
  .i64 2))) [] H fun t11_10 H => Q7 .normal (upd (upd (upd e6 10 (e6 3)) 11 t11_10) 3 t11_10) H) Q) fun Q5 => cnd t7_4 (fun Q11 => Q11 .normal (upd (upd (upd e 5 (e 4))
  6 (e 0)) 7 t7_4) H) (fun Q12 => Q12 (.exit 0) (upd (upd (upd e 5 (e 4)) 6 (e 0)) 7 t7_4) H) Q5
theorem h60_0 (S : Sys) (e : Fe) (H : Heap) (Q : Kx) : wpC S b60_0 e H Q = s60_0 S e H Q := by kernel_rfl
theorem l60_0 (S : Sys) {Q : Kx} (I : Nat → Fe → Heap → Prop) (d : Nat) {e0 : Fe} {H : Heap} (h0 : I d e0 H) (hr : ∀ (d : Nat) (e : Fe) (H : Heap), I d e H → s60_0 S e H
  (sq (fun e' H' => ∃ d', d' < d ∧ I d' e' H') Q)) : WL S b60_0 e0 H Q := WL_inv I d h0 fun d e H hi => (h60_0 S e H _).mpr (hr d e H hi)
theorem u60_0 (S : Sys) {Q : Kx} {e : Fe} {H : Heap} (h : s60_0 S e H (sq (fun e' H' => WL S b60_0 e' H' Q) Q)) : WL S b60_0 e H Q := WL_once ((h60_0 S e H _).mpr h)
def s60 (S : Sys) (a0 : Value) (H : Heap) (R : Kv) : Prop := jn (sq (fun e2 H => R (e2 3) H) (fn [(.t 2)] R)) fun Q1 => jn (blk 0 Q1) fun Q3 => WL S b60_0 (upd (upd (upd
  (Env.get [a0]) 2 (.int .i64 0)) 3 (.int .i64 1)) 4 (.int .i64 0)) H Q3
theorem h60 (S : Sys) (a0 : Value) (H : Heap) (R : Kv) : wpC S k60.body (Env.get [a0]) H (fn [(.t 2)] R) = s60 S a0 H R := by kernel_rfl
theorem w60 {S : Sys} (hR : S.R 60 = none) (hF : S.F 60 = some k60) (a0 : Value) {H : Heap} {R : Kv} (h : s60 S a0 H R) : Wf S 60 [a0] H R := Wf_sh hR hF ((h60 S a0 H
  R).mpr h)
def b61_0 : KCode := (.seq (.reg [(.op (some 14) none (.bin .lss (.t 13) (.t 12)))]) (.seq (.cond (.t 14) .skip (.exit 0)) (.seq (.block 1 (.seq (.reg [(.op (some 15)
  none (.iad 1 (.t 11) (.t 13))), (.op (some 16) none (.ld (.t 15))), (.op (some 7) none (.mv (.t 16)))]) (.seq (.reg [(.op (some 17) none (.mv (.t 7))), (.op (some 18)
  none (.bin .gtr (.t 17) (.c (.int .i64 0))))]) (.cond (.t 18) (.seq (.reg [(.op (some 19) none (.mv (.t 3))), (.op (some 20) none (.mv (.t 7))), (.op (some 21) none
  (.bin .sub (.c (.int .i64 11)) (.t 20))), (.op (some 22) none (.bin .shl (.c (.int .i64 1)) (.t 21))), (.op (some 23) none (.bin .sub (.t 19) (.t 22))), (.op (some 3)
  none (.mv (.t 23)))]) (.seq (.reg [(.op (some 24) none (.mv (.t 4))), (.op (some 25) none (.bin .add (.t 24) (.c (.int .i64 1)))), (.op (some 4) none (.mv (.t 25)))])
  (.reg [(.op (some 26) none (.mv (.t 7))), (.op (some 27) none (.bin .eql (.t 26) (.c (.int .i64 1)))), (.op (some 5) none (.mv (.t 27)))]))) .skip)))) (.reg [(.op
  (some 28) none (.bin .add (.t 13) (.c (.int .i64 1)))), (.op (some 13) none (.mv (.t 28)))]))))
def s61_0 (S : Sys) (e : Fe) (H : Heap) (Q : Kx) : Prop := run S (.bin .lss (.c (e 13)) (.c (e 12))) [] H fun t14_18 H => jn (sq (fun e20 H => jn (sq (fun e22 H => run S
  (.bin .add (.c (e22 13)) (.c (.int .i64 1))) [] H fun t28_23 H => Q .normal (upd (upd e22 28 t28_23) 13 t28_23) H) Q) fun Q21 => run S (.iad 1 (.c (e20 11)) (.c (e20
  13))) [] H fun t15_24 H => run S (.ld (.c t15_24)) [] H fun t16_25 H => run S (.bin .gtr (.c t16_25) (.c (.int .i64 0))) [] H fun t18_26 H => jn (blk 1 Q21) fun Q27 =>
  cnd t18_26 (fun Q28 => run S (.bin .sub (.c (.int .i64 11)) (.c t16_25)) [] H fun t21_30 H => run S (.bin .shl (.c (.int .i64 1)) (.c t21_30)) [] H fun t22_31 H => run
  S (.bin .sub (.c (e20 3)) (.c t22_31)) [] H fun t23_32 H => run S (.bin .add (.c (e20 4)) (.c (.int .i64 1))) [] H fun t25_33 H => run S (.bin .eql (.c t16_25) (.c
  (.int .i64 1))) [] H fun t27_34 H => Q28 .normal (upd (upd (upd (upd (upd (upd (upd (upd (upd (upd (upd (upd (upd (upd (upd (upd (upd e20 15 t15_24) 16 t16_25) 7
  t16_25) 17 t16_25) 18 t18_26) 19 (e20 3)) 20 t16_25) 21 t21_30) 22 t22_31) 23 t23_32) 3 t23_32) 24 (e20 4)) 25 t25_33) 4 t25_33) 26 t16_25) 27 t27_34) 5 t27_34) H)
  (fun Q29 => Q29 .normal (upd (upd (upd (upd (upd e20 15 t15_24) 16 t16_25) 7 t16_25) 17 t16_25) 18 t18_26) H) Q27) Q) fun Q19 => cnd t14_18 (fun Q35 => Q35 .normal
  (upd e 14 t14_18) H) (fun Q36 => Q36 (.exit 0) (upd e 14 t14_18) H) Q19
theorem h61_0 (S : Sys) (e : Fe) (H : Heap) (Q : Kx) : wpC S b61_0 e H Q = s61_0 S e H Q := by kernel_rfl
theorem l61_0 (S : Sys) {Q : Kx} (I : Nat → Fe → Heap → Prop) (d : Nat) {e0 : Fe} {H : Heap} (h0 : I d e0 H) (hr : ∀ (d : Nat) (e : Fe) (H : Heap), I d e H → s61_0 S e H
  (sq (fun e' H' => ∃ d', d' < d ∧ I d' e' H') Q)) : WL S b61_0 e0 H Q := WL_inv I d h0 fun d e H hi => (h61_0 S e H _).mpr (hr d e H hi)
theorem u61_0 (S : Sys) {Q : Kx} {e : Fe} {H : Heap} (h : s61_0 S e H (sq (fun e' H' => WL S b61_0 e' H' Q) Q)) : WL S b61_0 e H Q := WL_once ((h61_0 S e H _).mpr h)
def s61 (S : Sys) (a0 : Value) (H : Heap) (R : Kv) : Prop := run S (.call 92 [(.c a0)]) [] H fun t9_1 H => run S (.un .not (.c t9_1)) [] H fun t10_2 H => jn (sq (fun e4
  H => run S (.lenL (.c (e4 0))) [] H fun t12_5 H => jn (sq (fun e7 H => run S (.bin .eql (.c (e7 3)) (.c (.int .i64 0))) [] H fun t30_8 H => gd t30_8 false (run S (.mv
  (.c (e7 4))) [] H) H fun t32_9 H => gd t30_8 false (run S (.bin .eql (.c t32_9) (.c (.int .i64 1))) [] H) H fun t33_10 H => gd t30_8 false (run S (.mv (.c t33_10)) []
  H) H fun t34_11 H => gd t34_11 true (run S (.mv (.c (e7 5))) [] H) H fun t35_12 H => gd t30_8 false (run S (.pick (.c t34_11) (.c t35_12) (.c (.bool false))) [] H) H
  fun t36_13 H => run S (.pick (.c t30_8) (.c (.bool true)) (.c t36_13)) [] H fun t37_14 H => R t37_14 H) (fn [(.t 2)] R)) fun Q6 => jn (blk 0 Q6) fun Q15 => WL S b61_0
  (upd (upd (upd (upd (upd (upd e4 3 (.int .i64 2048)) 4 (.int .i64 0)) 5 (.bool false)) 11 (e4 0)) 12 t12_5) 13 (.int .i64 0)) H Q15) (fn [(.t 2)] R)) fun Q3 => cnd
  t10_2 (fun Q16 => Q16 .ret (upd (upd (upd (upd (upd (Env.get [a0]) 2 (.bool false)) 8 a0) 9 t9_1) 10 t10_2) 2 (.bool false)) H) (fun Q17 => Q17 .normal (upd (upd (upd
  (upd (Env.get [a0]) 2 (.bool false)) 8 a0) 9 t9_1) 10 t10_2) H) Q3
theorem h61 (S : Sys) (a0 : Value) (H : Heap) (R : Kv) : wpC S k61.body (Env.get [a0]) H (fn [(.t 2)] R) = s61 S a0 H R := by kernel_rfl
theorem w61 {S : Sys} (hR : S.R 61 = none) (hF : S.F 61 = some k61) (a0 : Value) {H : Heap} {R : Kv} (h : s61 S a0 H R) : Wf S 61 [a0] H R := Wf_sh hR hF ((h61 S a0 H
  R).mpr h)
def b70_1 : KCode := (.seq (.reg [(.op (some 22) none (.bin .lss (.t 21) (.t 20)))]) (.seq (.cond (.t 22) .skip (.exit 2)) (.seq (.block 3 (.seq (.reg [(.op (some 23)
  none (.mv (.t 21))), (.op (some 24) none (.iad 1 (.t 19) (.t 21))), (.op (some 25) none (.ld (.t 24))), (.op (some 7) none (.mv (.t 23))), (.op (some 8) none (.mv (.t
  25)))]) (.seq (.reg [(.op (some 26) none (.mv (.t 8))), (.op (some 27) none (.mv (.t 6))), (.op (some 28) none (.bin .eql (.t 26) (.t 27)))]) (.cond (.t 28) (.seq
  (.reg [(.op (some 29) none (.mv (.t 4))), (.op (some 30) none (.mv (.t 7))), (.op (some 31) none (.mv (.t 5))), (.op (some 32) none (.iad 1 (.t 29) (.t 30))), (.op
  none none (.st (.t 32) (.t 31)))]) (.reg [(.op (some 33) none (.mv (.t 5))), (.op (some 34) none (.bin .add (.t 33) (.c (.int .i64 1)))), (.op (some 5) none (.mv (.t
  34)))])) .skip)))) (.reg [(.op (some 35) none (.bin .add (.t 21) (.c (.int .i64 1)))), (.op (some 21) none (.mv (.t 35)))]))))
def s70_1 (S : Sys) (e : Fe) (H : Heap) (Q : Kx) : Prop := run S (.bin .lss (.c (e 21)) (.c (e 20))) [] H fun t22_26 H => jn (sq (fun e28 H => jn (sq (fun e30 H => run S
  (.bin .add (.c (e30 21)) (.c (.int .i64 1))) [] H fun t35_31 H => Q .normal (upd (upd e30 35 t35_31) 21 t35_31) H) Q) fun Q29 => run S (.iad 1 (.c (e28 19)) (.c (e28
  21))) [] H fun t24_32 H => run S (.ld (.c t24_32)) [] H fun t25_33 H => run S (.bin .eql (.c t25_33) (.c (e28 6))) [] H fun t28_34 H => jn (blk 3 Q29) fun Q35 => cnd
  t28_34 (fun Q36 => run S (.iad 1 (.c (e28 4)) (.c (e28 21))) [] H fun t32_38 H => run S (.st (.c t32_38) (.c (e28 5))) [] H fun _ H => run S (.bin .add (.c (e28 5))
  (.c (.int .i64 1))) [] H fun t34_39 H => Q36 .normal (upd (upd (upd (upd (upd (upd (upd (upd (upd (upd (upd (upd (upd (upd (upd e28 23 (e28 21)) 24 t24_32) 25 t25_33)
  7 (e28 21)) 8 t25_33) 26 t25_33) 27 (e28 6)) 28 t28_34) 29 (e28 4)) 30 (e28 21)) 31 (e28 5)) 32 t32_38) 33 (e28 5)) 34 t34_39) 5 t34_39) H) (fun Q37 => Q37 .normal
  (upd (upd (upd (upd (upd (upd (upd (upd e28 23 (e28 21)) 24 t24_32) 25 t25_33) 7 (e28 21)) 8 t25_33) 26 t25_33) 27 (e28 6)) 28 t28_34) H) Q35) Q) fun Q27 => cnd t22_26
  (fun Q40 => Q40 .normal (upd e 22 t22_26) H) (fun Q41 => Q41 (.exit 2) (upd e 22 t22_26) H) Q27
theorem h70_1 (S : Sys) (e : Fe) (H : Heap) (Q : Kx) : wpC S b70_1 e H Q = s70_1 S e H Q := by kernel_rfl
theorem l70_1 (S : Sys) {Q : Kx} (I : Nat → Fe → Heap → Prop) (d : Nat) {e0 : Fe} {H : Heap} (h0 : I d e0 H) (hr : ∀ (d : Nat) (e : Fe) (H : Heap), I d e H → s70_1 S e H
  (sq (fun e' H' => ∃ d', d' < d ∧ I d' e' H') Q)) : WL S b70_1 e0 H Q := WL_inv I d h0 fun d e H hi => (h70_1 S e H _).mpr (hr d e H hi)
theorem u70_1 (S : Sys) {Q : Kx} {e : Fe} {H : Heap} (h : s70_1 S e H (sq (fun e' H' => WL S b70_1 e' H' Q) Q)) : WL S b70_1 e H Q := WL_once ((h70_1 S e H _).mpr h)
def b70_0 : KCode := (.seq (.seq (.reg [(.op (some 15) none (.mv (.t 6))), (.op (some 16) none (.bin .leq (.t 15) (.c (.int .i64 11))))]) (.cond (.t 16) .skip (.exit
  0))) (.seq (.block 1 (.seq (.seq (.reg [(.op (some 19) none (.mv (.t 0))), (.op (some 20) none (.lenL (.t 19))), (.op (some 21) none (.mv (.c (.int .i64 0))))])
  (.block 2 (.loop (.seq (.reg [(.op (some 22) none (.bin .lss (.t 21) (.t 20)))]) (.seq (.cond (.t 22) .skip (.exit 2)) (.seq (.block 3 (.seq (.reg [(.op (some 23) none
  (.mv (.t 21))), (.op (some 24) none (.iad 1 (.t 19) (.t 21))), (.op (some 25) none (.ld (.t 24))), (.op (some 7) none (.mv (.t 23))), (.op (some 8) none (.mv (.t
  25)))]) (.seq (.reg [(.op (some 26) none (.mv (.t 8))), (.op (some 27) none (.mv (.t 6))), (.op (some 28) none (.bin .eql (.t 26) (.t 27)))]) (.cond (.t 28) (.seq
  (.reg [(.op (some 29) none (.mv (.t 4))), (.op (some 30) none (.mv (.t 7))), (.op (some 31) none (.mv (.t 5))), (.op (some 32) none (.iad 1 (.t 29) (.t 30))), (.op
  none none (.st (.t 32) (.t 31)))]) (.reg [(.op (some 33) none (.mv (.t 5))), (.op (some 34) none (.bin .add (.t 33) (.c (.int .i64 1)))), (.op (some 5) none (.mv (.t
  34)))])) .skip)))) (.reg [(.op (some 35) none (.bin .add (.t 21) (.c (.int .i64 1)))), (.op (some 21) none (.mv (.t 35)))]))))))) (.reg [(.op (some 36) none (.mv (.t
  5))), (.op (some 37) none (.bin .shl (.t 36) (.c (.int .u64 1)))), (.op (some 5) none (.mv (.t 37)))]))) (.reg [(.op (some 17) none (.mv (.t 6))), (.op (some 18) none
  (.bin .add (.t 17) (.c (.int .i64 1)))), (.op (some 6) none (.mv (.t 18)))])))
def s70_0 (S : Sys) (e : Fe) (H : Heap) (Q : Kx) : Prop := run S (.bin .leq (.c (e 6)) (.c (.int .i64 11))) [] H fun t16_12 H => jn (sq (fun e14 H => jn (sq (fun e16 H
  => run S (.bin .add (.c (e16 6)) (.c (.int .i64 1))) [] H fun t18_17 H => Q .normal (upd (upd (upd e16 17 (e16 6)) 18 t18_17) 6 t18_17) H) Q) fun Q15 => run S (.lenL
  (.c (e14 0))) [] H fun t20_18 H => jn (blk 1 Q15) fun Q19 => jn (sq (fun e21 H => run S (.bin .shl (.c (e21 5)) (.c (.int .u64 1))) [] H fun t37_22 H => Q19 .normal
  (upd (upd (upd e21 36 (e21 5)) 37 t37_22) 5 t37_22) H) Q19) fun Q20 => jn (blk 2 Q20) fun Q23 => WL S b70_1 (upd (upd (upd e14 19 (e14 0)) 20 t20_18) 21 (.int .i64 0))
  H Q23) Q) fun Q13 => cnd t16_12 (fun Q24 => Q24 .normal (upd (upd e 15 (e 6)) 16 t16_12) H) (fun Q25 => Q25 (.exit 0) (upd (upd e 15 (e 6)) 16 t16_12) H) Q13
theorem h70_0 (S : Sys) (e : Fe) (H : Heap) (Q : Kx) : wpC S b70_0 e H Q = s70_0 S e H Q := by kernel_rfl
theorem l70_0 (S : Sys) {Q : Kx} (I : Nat → Fe → Heap → Prop) (d : Nat) {e0 : Fe} {H : Heap} (h0 : I d e0 H) (hr : ∀ (d : Nat) (e : Fe) (H : Heap), I d e H → s70_0 S e H
  (sq (fun e' H' => ∃ d', d' < d ∧ I d' e' H') Q)) : WL S b70_0 e0 H Q := WL_inv I d h0 fun d e H hi => (h70_0 S e H _).mpr (hr d e H hi)
theorem u70_0 (S : Sys) {Q : Kx} {e : Fe} {H : Heap} (h : s70_0 S e H (sq (fun e' H' => WL S b70_0 e' H' Q) Q)) : WL S b70_0 e H Q := WL_once ((h70_0 S e H _).mpr h)
def s70 (S : Sys) (a0 : Value) (H : Heap) (R : Kv) : Prop := run S (.call 61 [(.c a0)]) [] H fun t10_1 H => run S (.un .not (.c t10_1)) [] H fun t11_2 H => jn (sq (fun
  e4 H => run S (.lenL (.c (e4 0))) [] H fun t13_5 H => run S (.mks 3 [(.int .i64 0)] 8 (.c t13_5) (.c t13_5)) [] H fun t14_6 H => jn (sq (fun e8 H => R (tup [(e8 4),
  (.bool true)]) H) (fn [(.t 2), (.t 3)] R)) fun Q7 => jn (blk 0 Q7) fun Q9 => WL S b70_0 (upd (upd (upd (upd (upd (upd e4 12 (e4 0)) 13 t13_5) 14 t14_6) 4 t14_6) 5
  (.int .i64 0)) 6 (.int .i64 1)) H Q9) (fn [(.t 2), (.t 3)] R)) fun Q3 => cnd t11_2 (fun Q10 => Q10 .ret (upd (upd (upd (upd (upd (upd (upd (Env.get [a0]) 2 (.slice
  none 0 0)) 3 (.bool false)) 9 a0) 10 t10_1) 11 t11_2) 2 (.slice none 0 0)) 3 (.bool false)) H) (fun Q11 => Q11 .normal (upd (upd (upd (upd (upd (Env.get [a0]) 2
  (.slice none 0 0)) 3 (.bool false)) 9 a0) 10 t10_1) 11 t11_2) H) Q3
theorem h70 (S : Sys) (a0 : Value) (H : Heap) (R : Kv) : wpC S k70.body (Env.get [a0]) H (fn [(.t 2), (.t 3)] R) = s70 S a0 H R := by kernel_rfl
theorem w70 {S : Sys} (hR : S.R 70 = none) (hF : S.F 70 = some k70) (a0 : Value) {H : Heap} {R : Kv} (h : s70 S a0 H R) : Wf S 70 [a0] H R := Wf_sh hR hF ((h70 S a0 H
  R).mpr h)
end Go.Proofs.Ytlboioplemlneaa.K
