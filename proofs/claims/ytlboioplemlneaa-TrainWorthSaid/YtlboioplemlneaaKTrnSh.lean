/- The functions as nested words with named values, each held against its code by the kernel. Printed by a program of this work (sh.py). -/
import Derived.Test.YtlboioplemlneaaKLowSh1
set_option maxRecDepth 100000
set_option linter.unusedVariables false
namespace Go.Proofs.Ytlboioplemlneaa.K
open Go Go.Proofs
def b7_0 : KCode := (.seq (.reg [(.op (some 26) none (.bin .lss (.t 25) (.t 24)))]) (.seq (.cond (.t 26) .skip (.exit 0)) (.seq (.block 1 (.seq (.reg [(.op (some 27)
  none (.iad 1 (.t 23) (.t 25))), (.op (some 28) none (.ld (.t 27))), (.op (some 8) none (.mv (.t 28)))]) (.reg [(.op (some 29) none (.mv (.t 8))), (.op (some 30) none
  (.mv (.t 6))), (.op (some 31) none (.bin .add (.t 29) (.t 30))), (.op (some 6) none (.mv (.t 31)))]))) (.reg [(.op (some 32) none (.bin .add (.t 25) (.c (.int .i64
  1)))), (.op (some 25) none (.mv (.t 32)))]))))
def s7_0 (S : Sys) (e : Fe) (H : Heap) (Q : Kx) : Prop := run S (.bin .lss (.c (e 25)) (.c (e 24))) [] H fun t26_34 H => jn (sq (fun e36 H => jn (sq (fun e38 H => run S
  (.bin .add (.c (e38 25)) (.c (.int .i64 1))) [] H fun t32_39 H => Q .normal (upd (upd e38 32 t32_39) 25 t32_39) H) Q) fun Q37 => run S (.iad 1 (.c (e36 23)) (.c (e36
  25))) [] H fun t27_40 H => run S (.ld (.c t27_40)) [] H fun t28_41 H => run S (.bin .add (.c t28_41) (.c (e36 6))) [] H fun t31_42 H => Q37 .normal (upd (upd (upd (upd
  (upd (upd (upd e36 27 t27_40) 28 t28_41) 8 t28_41) 29 t28_41) 30 (e36 6)) 31 t31_42) 6 t31_42) H) Q) fun Q35 => cnd t26_34 (fun Q43 => Q43 .normal (upd e 26 t26_34) H)
  (fun Q44 => Q44 (.exit 0) (upd e 26 t26_34) H) Q35
theorem h7_0 (S : Sys) (e : Fe) (H : Heap) (Q : Kx) : wpC S b7_0 e H Q = s7_0 S e H Q := by kernel_rfl
theorem l7_0 (S : Sys) {Q : Kx} (I : Nat → Fe → Heap → Prop) (d : Nat) {e0 : Fe} {H : Heap} (h0 : I d e0 H) (hr : ∀ (d : Nat) (e : Fe) (H : Heap), I d e H → s7_0 S e H
  (sq (fun e' H' => ∃ d', d' < d ∧ I d' e' H') Q)) : WL S b7_0 e0 H Q := WL_inv I d h0 fun d e H hi => (h7_0 S e H _).mpr (hr d e H hi)
theorem u7_0 (S : Sys) {Q : Kx} {e : Fe} {H : Heap} (h : s7_0 S e H (sq (fun e' H' => WL S b7_0 e' H' Q) Q)) : WL S b7_0 e H Q := WL_once ((h7_0 S e H _).mpr h)
def s7 (S : Sys) (a0 a1 : Value) (H : Heap) (R : Kv) : Prop := run S (.call 28 []) [] H fun t9_1 H => run S (.un .not (.c t9_1)) [] H fun t10_2 H => jn (sq (fun e4 H =>
  run S (.call 29 [(.c (e4 0)), (.c (.int .i64 70)), (.c (.int .i64 240))]) [] H fun t12_5 H => run S (.un .not (.c t12_5)) [] H fun t13_6 H => jn (sq (fun e8 H => run S
  (.call 30 [(.c (e8 0)), (.c (e8 1))]) [] H fun t16_9 H => run S (.call 32 [(.c (e8 0)), (.c (e8 1))]) [] H fun t20_10 H => run S (.call 31 [(.c t16_9), (.c t20_10)])
  [] H fun t21_11 H => run S (.un .not (.c t21_11)) [] H fun t22_12 H => jn (sq (fun e14 H => run S (.lenL (.c (e14 5))) [] H fun t24_15 H => jn (sq (fun e17 H => run S
  (.call 33 [(.c (e17 0)), (.c (e17 1))]) [] H fun t35_18 H => run S (.bin .eql (.c t35_18) (.c (e17 6))) [] H fun t37_19 H => gd t37_19 true (run S (.mv (.c (e17 6)))
  [] H) H fun t39_20 H => gd t37_19 true (run S (.lenS (.c t39_20)) [] H) H fun t40_21 H => gd t37_19 true (run S (.mv (.c (e17 1))) [] H) H fun t41_22 H => gd t37_19
  true (run S (.mx (.c t41_22) [(.c (.int .i64 0))]) [] H) H fun t42_23 H => gd t37_19 true (run S (.mn (.c t42_23) [(.c (.int .i64 256))]) [] H) H fun t43_24 H => gd
  t37_19 true (run S (.bin .leq (.c t40_21) (.c t43_24)) [] H) H fun t44_25 H => run S (.pick (.c t37_19) (.c t44_25) (.c (.bool false))) [] H fun t45_26 H => R t45_26
  H) (fn [(.t 4)] R)) fun Q16 => jn (blk 0 Q16) fun Q27 => WL S b7_0 (upd (upd (upd (upd e14 6 (.string (bs []))) 23 (e14 5)) 24 t24_15) 25 (.int .i64 0)) H Q27) (fn
  [(.t 4)] R)) fun Q13 => cnd t22_12 (fun Q28 => Q28 .ret (upd (upd (upd (upd (upd (upd (upd (upd (upd (upd (upd e8 14 (e8 0)) 15 (e8 1)) 16 t16_9) 5 t16_9) 17 t16_9) 18
  (e8 0)) 19 (e8 1)) 20 t20_10) 21 t21_11) 22 t22_12) 4 (.bool false)) H) (fun Q29 => Q29 .normal (upd (upd (upd (upd (upd (upd (upd (upd (upd (upd e8 14 (e8 0)) 15 (e8
  1)) 16 t16_9) 5 t16_9) 17 t16_9) 18 (e8 0)) 19 (e8 1)) 20 t20_10) 21 t21_11) 22 t22_12) H) Q13) (fn [(.t 4)] R)) fun Q7 => cnd t13_6 (fun Q30 => Q30 .ret (upd (upd
  (upd (upd e4 11 (e4 0)) 12 t12_5) 13 t13_6) 4 (.bool true)) H) (fun Q31 => Q31 .normal (upd (upd (upd e4 11 (e4 0)) 12 t12_5) 13 t13_6) H) Q7) (fn [(.t 4)] R)) fun Q3
  => cnd t10_2 (fun Q32 => Q32 .ret (upd (upd (upd (upd (Env.get [a0, a1]) 4 (.bool false)) 9 t9_1) 10 t10_2) 4 (.bool false)) H) (fun Q33 => Q33 .normal (upd (upd (upd
  (Env.get [a0, a1]) 4 (.bool false)) 9 t9_1) 10 t10_2) H) Q3
theorem h7 (S : Sys) (a0 a1 : Value) (H : Heap) (R : Kv) : wpC S k7.body (Env.get [a0, a1]) H (fn [(.t 4)] R) = s7 S a0 a1 H R := by kernel_rfl
theorem w7 {S : Sys} (hR : S.R 7 = none) (hF : S.F 7 = some k7) (a0 a1 : Value) {H : Heap} {R : Kv} (h : s7 S a0 a1 H R) : Wf S 7 [a0, a1] H R := Wf_sh hR hF ((h7 S a0
  a1 H R).mpr h)
def s8 (S : Sys) (a0 a1 : Value) (H : Heap) (R : Kv) : Prop := run S (.call 28 []) [] H fun t5_1 H => run S (.un .not (.c t5_1)) [] H fun t6_2 H => jn (sq (fun e4 H =>
  run S (.call 29 [(.c (e4 0)), (.c (.int .i64 70)), (.c (.int .i64 400))]) [] H fun t8_5 H => run S (.un .not (.c t8_5)) [] H fun t9_6 H => gd t9_6 false (run S (.mv
  (.c (e4 1))) [] H) H fun t11_7 H => gd t9_6 false (run S (.lenS (.c t11_7)) [] H) H fun t12_8 H => gd t9_6 false (run S (.bin .gtr (.c t12_8) (.c (.int .i64 60))) []
  H) H fun t13_9 H => run S (.pick (.c t9_6) (.c (.bool true)) (.c t13_9)) [] H fun t14_10 H => jn (sq (fun e12 H => run S (.call 34 [(.c (e12 0)), (.c (e12 1))]) [] H
  fun t17_13 H => run S (.call 36 [(.c (e12 0))]) [] H fun t19_14 H => run S (.call 35 [(.c t19_14), (.c (e12 1)), (.c (.slice none 0 0))]) [] H fun t21_15 H => run S
  (.bin .eql (.c t17_13) (.c t21_15)) [] H fun t22_16 H => R t22_16 H) (fn [(.t 4)] R)) fun Q11 => cnd t14_10 (fun Q17 => Q17 .ret (upd (upd (upd (upd (upd (upd (upd
  (upd (upd e4 7 (e4 0)) 8 t8_5) 9 t9_6) 10 t9_6) 11 t11_7) 12 t12_8) 13 t13_9) 14 t14_10) 4 (.bool true)) H) (fun Q18 => Q18 .normal (upd (upd (upd (upd (upd (upd (upd
  (upd e4 7 (e4 0)) 8 t8_5) 9 t9_6) 10 t9_6) 11 t11_7) 12 t12_8) 13 t13_9) 14 t14_10) H) Q11) (fn [(.t 4)] R)) fun Q3 => cnd t6_2 (fun Q19 => Q19 .ret (upd (upd (upd
  (upd (Env.get [a0, a1]) 4 (.bool false)) 5 t5_1) 6 t6_2) 4 (.bool false)) H) (fun Q20 => Q20 .normal (upd (upd (upd (Env.get [a0, a1]) 4 (.bool false)) 5 t5_1) 6 t6_2)
  H) Q3
theorem h8 (S : Sys) (a0 a1 : Value) (H : Heap) (R : Kv) : wpC S k8.body (Env.get [a0, a1]) H (fn [(.t 4)] R) = s8 S a0 a1 H R := by kernel_rfl
theorem w8 {S : Sys} (hR : S.R 8 = none) (hF : S.F 8 = some k8) (a0 a1 : Value) {H : Heap} {R : Kv} (h : s8 S a0 a1 H R) : Wf S 8 [a0, a1] H R := Wf_sh hR hF ((h8 S a0
  a1 H R).mpr h)
def b9_0 : KCode := (.seq (.reg [(.op (some 20) none (.bin .lss (.t 19) (.t 18)))]) (.seq (.cond (.t 20) .skip (.exit 0)) (.seq (.block 1 (.seq (.reg [(.op (some 21)
  none (.mv (.t 19))), (.op (some 22) none (.iad 1 (.t 17) (.t 19))), (.op (some 23) none (.ld (.t 22))), (.op (some 6) none (.mv (.t 21))), (.op (some 7) none (.mv (.t
  23)))]) (.seq (.reg [(.op (some 24) none (.mv (.t 0))), (.op (some 26) none (.mv (.t 7))), (.op (some 27) none (.mv (.t 5))), (.op (some 28) none (.mv (.t 6))), (.op
  (some 29) none (.slc 9 1 (.t 27) none (some (.t 28)))), (.op (some 25) none (.call 36 [(.t 24)])), (.chk 29 none (.slc 9 1 (.t 27) none (some (.t 28)))), (.op (some
  30) none (.call 35 [(.t 25), (.t 26), (.t 29)])), (.op (some 8) none (.mv (.t 30)))]) (.seq (.reg [(.op (some 31) none (.mv (.t 8))), (.op (some 32) none (.bin .lss
  (.t 31) (.c (.int .i64 1)))), (.op (some 33) none (.mv (.t 32))), (.op (some 34) (some (33, false)) (.mv (.t 7))), (.op (some 35) (some (33, false)) (.lenS (.t 34))),
  (.op (some 36) (some (33, false)) (.bin .lss (.t 35) (.c (.int .i64 6)))), (.op (some 37) none (.pick (.t 33) (.c (.bool true)) (.t 36))), (.op (some 38) none (.mv (.t
  37))), (.op (some 39) (some (38, false)) (.mv (.t 7))), (.op (some 40) (some (38, false)) (.lenS (.t 39))), (.op (some 41) (some (38, false)) (.bin .gtr (.t 40) (.c
  (.int .i64 16)))), (.op (some 42) none (.pick (.t 38) (.c (.bool true)) (.t 41))), (.op (some 43) none (.mv (.t 42))), (.op (some 44) (some (43, false)) (.mv (.t 6))),
  (.op (some 45) (some (43, false)) (.bin .gtr (.t 44) (.c (.int .i64 0)))), (.op (some 46) (some (43, false)) (.mv (.t 45))), (.op (some 47) (some (46, true)) (.mv (.t
  8))), (.op (some 48) (some (46, true)) (.mv (.t 0))), (.op (some 50) (some (46, true)) (.mv (.t 5))), (.op (some 51) (some (46, true)) (.mv (.t 6))), (.op (some 52)
  (some (46, true)) (.bin .sub (.t 51) (.c (.int .i64 1)))), (.op (some 53) (some (46, true)) (.iad 1 (.t 50) (.t 52))), (.op (some 54) (some (46, true)) (.ld (.t 53))),
  (.op (some 55) (some (46, true)) (.mv (.t 5))), (.op (some 56) (some (46, true)) (.mv (.t 6))), (.op (some 57) (some (46, true)) (.bin .sub (.t 56) (.c (.int .i64
  1)))), (.op (some 58) (some (46, true)) (.slc 9 1 (.t 55) none (some (.t 57)))), (.op (some 49) (some (46, true)) (.call 36 [(.t 48)])), (.chk 54 (some (46, true))
  (.ld (.t 53))), (.chk 58 (some (46, true)) (.slc 9 1 (.t 55) none (some (.t 57)))), (.op (some 59) (some (46, true)) (.call 35 [(.t 49), (.t 54), (.t 58)])), (.op
  (some 60) (some (46, true)) (.bin .gtr (.t 47) (.t 59))), (.op (some 61) (some (43, false)) (.pick (.t 46) (.t 60) (.c (.bool false)))), (.op (some 62) none (.pick (.t
  43) (.c (.bool true)) (.t 61)))]) (.cond (.t 62) (.seq (.reg [(.op (some 4) none (.mv (.c (.bool false))))]) .ret) .skip))))) (.reg [(.op (some 63) none (.bin .add (.t
  19) (.c (.int .i64 1)))), (.op (some 19) none (.mv (.t 63)))]))))
def s9_0 (S : Sys) (e : Fe) (H : Heap) (Q : Kx) : Prop := run S (.bin .lss (.c (e 19)) (.c (e 18))) [] H fun t20_24 H => jn (sq (fun e26 H => jn (sq (fun e28 H => run S
  (.bin .add (.c (e28 19)) (.c (.int .i64 1))) [] H fun t63_29 H => Q .normal (upd (upd e28 63 t63_29) 19 t63_29) H) Q) fun Q27 => run S (.iad 1 (.c (e26 17)) (.c (e26
  19))) [] H fun t22_30 H => run S (.ld (.c t22_30)) [] H fun t23_31 H => run S (.slc 9 1 (.c (e26 5)) none (some (.c (e26 19)))) [] H fun t29_32 H => run S (.call 36
  [(.c (e26 0))]) [] H fun t25_33 H => ck (kop (.slc 9 1 (.c (e26 5)) none (some (.c (e26 19)))) [] H) t29_32 (run S (.call 35 [(.c t25_33), (.c t23_31), (.c t29_32)])
  [] H fun t30_34 H => run S (.bin .lss (.c t30_34) (.c (.int .i64 1))) [] H fun t32_35 H => gd t32_35 false (run S (.mv (.c t23_31)) [] H) H fun t34_36 H => gd t32_35
  false (run S (.lenS (.c t34_36)) [] H) H fun t35_37 H => gd t32_35 false (run S (.bin .lss (.c t35_37) (.c (.int .i64 6))) [] H) H fun t36_38 H => run S (.pick (.c
  t32_35) (.c (.bool true)) (.c t36_38)) [] H fun t37_39 H => gd t37_39 false (run S (.mv (.c t23_31)) [] H) H fun t39_40 H => gd t37_39 false (run S (.lenS (.c t39_40))
  [] H) H fun t40_41 H => gd t37_39 false (run S (.bin .gtr (.c t40_41) (.c (.int .i64 16))) [] H) H fun t41_42 H => run S (.pick (.c t37_39) (.c (.bool true)) (.c
  t41_42)) [] H fun t42_43 H => gd t42_43 false (run S (.mv (.c (e26 19))) [] H) H fun t44_44 H => gd t42_43 false (run S (.bin .gtr (.c t44_44) (.c (.int .i64 0))) []
  H) H fun t45_45 H => gd t42_43 false (run S (.mv (.c t45_45)) [] H) H fun t46_46 H => gd t46_46 true (run S (.mv (.c t30_34)) [] H) H fun t47_47 H => gd t46_46 true
  (run S (.mv (.c (e26 0))) [] H) H fun t48_48 H => gd t46_46 true (run S (.mv (.c (e26 5))) [] H) H fun t50_49 H => gd t46_46 true (run S (.mv (.c (e26 19))) [] H) H
  fun t51_50 H => gd t46_46 true (run S (.bin .sub (.c t51_50) (.c (.int .i64 1))) [] H) H fun t52_51 H => gd t46_46 true (run S (.iad 1 (.c t50_49) (.c t52_51)) [] H) H
  fun t53_52 H => gd t46_46 true (run S (.ld (.c t53_52)) [] H) H fun t54_53 H => gd t46_46 true (run S (.mv (.c (e26 5))) [] H) H fun t55_54 H => gd t46_46 true (run S
  (.mv (.c (e26 19))) [] H) H fun t56_55 H => gd t46_46 true (run S (.bin .sub (.c t56_55) (.c (.int .i64 1))) [] H) H fun t57_56 H => gd t46_46 true (run S (.slc 9 1
  (.c t55_54) none (some (.c t57_56))) [] H) H fun t58_57 H => gd t46_46 true (run S (.call 36 [(.c t48_48)]) [] H) H fun t49_58 H => cg t46_46 true (kop (.ld (.c
  t53_52)) [] H) t54_53 (cg t46_46 true (kop (.slc 9 1 (.c t55_54) none (some (.c t57_56))) [] H) t58_57 (gd t46_46 true (run S (.call 35 [(.c t49_58), (.c t54_53), (.c
  t58_57)]) [] H) H fun t59_59 H => gd t46_46 true (run S (.bin .gtr (.c t47_47) (.c t59_59)) [] H) H fun t60_60 H => gd t42_43 false (run S (.pick (.c t46_46) (.c
  t60_60) (.c (.bool false))) [] H) H fun t61_61 H => run S (.pick (.c t42_43) (.c (.bool true)) (.c t61_61)) [] H fun t62_62 H => jn (blk 1 Q27) fun Q63 => cnd t62_62
  (fun Q64 => Q64 .ret (upd (upd (upd (upd (upd (upd (upd (upd (upd (upd (upd (upd (upd (upd (upd (upd (upd (upd (upd (upd (upd (upd (upd (upd (upd (upd (upd (upd (upd
  (upd (upd (upd (upd (upd (upd (upd (upd (upd (upd (upd (upd (upd (upd (upd (upd (upd e26 21 (e26 19)) 22 t22_30) 23 t23_31) 6 (e26 19)) 7 t23_31) 24 (e26 0)) 26
  t23_31) 27 (e26 5)) 28 (e26 19)) 29 t29_32) 25 t25_33) 30 t30_34) 8 t30_34) 31 t30_34) 32 t32_35) 33 t32_35) 34 t34_36) 35 t35_37) 36 t36_38) 37 t37_39) 38 t37_39) 39
  t39_40) 40 t40_41) 41 t41_42) 42 t42_43) 43 t42_43) 44 t44_44) 45 t45_45) 46 t46_46) 47 t47_47) 48 t48_48) 50 t50_49) 51 t51_50) 52 t52_51) 53 t53_52) 54 t54_53) 55
  t55_54) 56 t56_55) 57 t57_56) 58 t58_57) 49 t49_58) 59 t59_59) 60 t60_60) 61 t61_61) 62 t62_62) 4 (.bool false)) H) (fun Q65 => Q65 .normal (upd (upd (upd (upd (upd
  (upd (upd (upd (upd (upd (upd (upd (upd (upd (upd (upd (upd (upd (upd (upd (upd (upd (upd (upd (upd (upd (upd (upd (upd (upd (upd (upd (upd (upd (upd (upd (upd (upd
  (upd (upd (upd (upd (upd (upd (upd e26 21 (e26 19)) 22 t22_30) 23 t23_31) 6 (e26 19)) 7 t23_31) 24 (e26 0)) 26 t23_31) 27 (e26 5)) 28 (e26 19)) 29 t29_32) 25 t25_33)
  30 t30_34) 8 t30_34) 31 t30_34) 32 t32_35) 33 t32_35) 34 t34_36) 35 t35_37) 36 t36_38) 37 t37_39) 38 t37_39) 39 t39_40) 40 t40_41) 41 t41_42) 42 t42_43) 43 t42_43) 44
  t44_44) 45 t45_45) 46 t46_46) 47 t47_47) 48 t48_48) 50 t50_49) 51 t51_50) 52 t52_51) 53 t53_52) 54 t54_53) 55 t55_54) 56 t56_55) 57 t57_56) 58 t58_57) 49 t49_58) 59
  t59_59) 60 t60_60) 61 t61_61) 62 t62_62) H) Q63)))) Q) fun Q25 => cnd t20_24 (fun Q66 => Q66 .normal (upd e 20 t20_24) H) (fun Q67 => Q67 (.exit 0) (upd e 20 t20_24)
  H) Q25
theorem h9_0 (S : Sys) (e : Fe) (H : Heap) (Q : Kx) : wpC S b9_0 e H Q = s9_0 S e H Q := by kernel_rfl
theorem l9_0 (S : Sys) {Q : Kx} (I : Nat → Fe → Heap → Prop) (d : Nat) {e0 : Fe} {H : Heap} (h0 : I d e0 H) (hr : ∀ (d : Nat) (e : Fe) (H : Heap), I d e H → s9_0 S e H
  (sq (fun e' H' => ∃ d', d' < d ∧ I d' e' H') Q)) : WL S b9_0 e0 H Q := WL_inv I d h0 fun d e H hi => (h9_0 S e H _).mpr (hr d e H hi)
theorem u9_0 (S : Sys) {Q : Kx} {e : Fe} {H : Heap} (h : s9_0 S e H (sq (fun e' H' => WL S b9_0 e' H' Q) Q)) : WL S b9_0 e H Q := WL_once ((h9_0 S e H _).mpr h)
def s9 (S : Sys) (a0 a1 : Value) (H : Heap) (R : Kv) : Prop := run S (.call 28 []) [] H fun t9_1 H => run S (.un .not (.c t9_1)) [] H fun t10_2 H => jn (sq (fun e4 H =>
  run S (.call 29 [(.c (e4 0)), (.c (.int .i64 40)), (.c (.int .i64 600))]) [] H fun t12_5 H => run S (.un .not (.c t12_5)) [] H fun t13_6 H => jn (sq (fun e8 H => run S
  (.call 30 [(.c (e8 0)), (.c (e8 1))]) [] H fun t16_9 H => run S (.lenL (.c t16_9)) [] H fun t18_10 H => jn (sq (fun e12 H => run S (.lenL (.c (e12 0))) [] H fun t65_13
  H => run S (.bin .gtr (.c t65_13) (.c (.int .i64 1))) [] H fun t66_14 H => gd t66_14 false (run S (.mv (.c (e12 5))) [] H) H fun t68_15 H => gd t66_14 false (run S
  (.lenL (.c t68_15)) [] H) H fun t69_16 H => gd t66_14 false (run S (.bin .eql (.c t69_16) (.c (.int .i64 0))) [] H) H fun t70_17 H => run S (.pick (.c t66_14) (.c
  (.bool true)) (.c t70_17)) [] H fun t71_18 H => R t71_18 H) (fn [(.t 4)] R)) fun Q11 => jn (blk 0 Q11) fun Q19 => WL S b9_0 (upd (upd (upd (upd (upd (upd (upd e8 14
  (e8 0)) 15 (e8 1)) 16 t16_9) 5 t16_9) 17 t16_9) 18 t18_10) 19 (.int .i64 0)) H Q19) (fn [(.t 4)] R)) fun Q7 => cnd t13_6 (fun Q20 => Q20 .ret (upd (upd (upd (upd e4 11
  (e4 0)) 12 t12_5) 13 t13_6) 4 (.bool true)) H) (fun Q21 => Q21 .normal (upd (upd (upd e4 11 (e4 0)) 12 t12_5) 13 t13_6) H) Q7) (fn [(.t 4)] R)) fun Q3 => cnd t10_2
  (fun Q22 => Q22 .ret (upd (upd (upd (upd (Env.get [a0, a1]) 4 (.bool false)) 9 t9_1) 10 t10_2) 4 (.bool false)) H) (fun Q23 => Q23 .normal (upd (upd (upd (Env.get [a0,
  a1]) 4 (.bool false)) 9 t9_1) 10 t10_2) H) Q3
theorem h9 (S : Sys) (a0 a1 : Value) (H : Heap) (R : Kv) : wpC S k9.body (Env.get [a0, a1]) H (fn [(.t 4)] R) = s9 S a0 a1 H R := by kernel_rfl
theorem w9 {S : Sys} (hR : S.R 9 = none) (hF : S.F 9 = some k9) (a0 a1 : Value) {H : Heap} {R : Kv} (h : s9 S a0 a1 H R) : Wf S 9 [a0, a1] H R := Wf_sh hR hF ((h9 S a0
  a1 H R).mpr h)
def b29_0 : KCode := (.seq (.reg [(.op (some 16) none (.bin .lss (.t 15) (.t 14)))]) (.seq (.cond (.t 16) .skip (.exit 0)) (.seq (.block 1 (.seq (.reg [(.op (some 17)
  none (.iad 1 (.t 13) (.t 15))), (.op (some 18) none (.ld (.t 17))), (.op (some 8) none (.mv (.t 18)))]) (.seq (.reg [(.op (some 19) none (.mv (.t 2))), (.op (some 20)
  none (.mv (.t 8))), (.op (some 21) none (.lenS (.t 20))), (.op (some 22) none (.bin .sub (.t 19) (.t 21))), (.op (some 2) none (.mv (.t 22)))]) (.seq (.reg [(.op (some
  23) none (.mv (.t 2))), (.op (some 24) none (.bin .lss (.t 23) (.c (.int .i64 0))))]) (.cond (.t 24) (.seq (.reg [(.op (some 6) none (.mv (.c (.bool false))))]) .ret)
  .skip))))) (.reg [(.op (some 25) none (.bin .add (.t 15) (.c (.int .i64 1)))), (.op (some 15) none (.mv (.t 25)))]))))
def s29_0 (S : Sys) (e : Fe) (H : Heap) (Q : Kx) : Prop := run S (.bin .lss (.c (e 15)) (.c (e 14))) [] H fun t16_11 H => jn (sq (fun e13 H => jn (sq (fun e15 H => run S
  (.bin .add (.c (e15 15)) (.c (.int .i64 1))) [] H fun t25_16 H => Q .normal (upd (upd e15 25 t25_16) 15 t25_16) H) Q) fun Q14 => run S (.iad 1 (.c (e13 13)) (.c (e13
  15))) [] H fun t17_17 H => run S (.ld (.c t17_17)) [] H fun t18_18 H => run S (.lenS (.c t18_18)) [] H fun t21_19 H => run S (.bin .sub (.c (e13 2)) (.c t21_19)) [] H
  fun t22_20 H => run S (.bin .lss (.c t22_20) (.c (.int .i64 0))) [] H fun t24_21 H => jn (blk 1 Q14) fun Q22 => cnd t24_21 (fun Q23 => Q23 .ret (upd (upd (upd (upd
  (upd (upd (upd (upd (upd (upd (upd e13 17 t17_17) 18 t18_18) 8 t18_18) 19 (e13 2)) 20 t18_18) 21 t21_19) 22 t22_20) 2 t22_20) 23 t22_20) 24 t24_21) 6 (.bool false)) H)
  (fun Q24 => Q24 .normal (upd (upd (upd (upd (upd (upd (upd (upd (upd (upd e13 17 t17_17) 18 t18_18) 8 t18_18) 19 (e13 2)) 20 t18_18) 21 t21_19) 22 t22_20) 2 t22_20) 23
  t22_20) 24 t24_21) H) Q22) Q) fun Q12 => cnd t16_11 (fun Q25 => Q25 .normal (upd e 16 t16_11) H) (fun Q26 => Q26 (.exit 0) (upd e 16 t16_11) H) Q12
theorem h29_0 (S : Sys) (e : Fe) (H : Heap) (Q : Kx) : wpC S b29_0 e H Q = s29_0 S e H Q := by kernel_rfl
theorem l29_0 (S : Sys) {Q : Kx} (I : Nat → Fe → Heap → Prop) (d : Nat) {e0 : Fe} {H : Heap} (h0 : I d e0 H) (hr : ∀ (d : Nat) (e : Fe) (H : Heap), I d e H → s29_0 S e H
  (sq (fun e' H' => ∃ d', d' < d ∧ I d' e' H') Q)) : WL S b29_0 e0 H Q := WL_inv I d h0 fun d e H hi => (h29_0 S e H _).mpr (hr d e H hi)
theorem u29_0 (S : Sys) {Q : Kx} {e : Fe} {H : Heap} (h : s29_0 S e H (sq (fun e' H' => WL S b29_0 e' H' Q) Q)) : WL S b29_0 e H Q := WL_once ((h29_0 S e H _).mpr h)
def s29 (S : Sys) (a0 a1 a2 : Value) (H : Heap) (R : Kv) : Prop := run S (.lenL (.c a0)) [] H fun t10_1 H => run S (.bin .gtr (.c t10_1) (.c a1)) [] H fun t12_2 H => jn
  (sq (fun e4 H => run S (.lenL (.c (e4 0))) [] H fun t14_5 H => jn (sq (fun e7 H => R (.bool true) H) (fn [(.t 6)] R)) fun Q6 => jn (blk 0 Q6) fun Q8 => WL S b29_0 (upd
  (upd (upd e4 13 (e4 0)) 14 t14_5) 15 (.int .i64 0)) H Q8) (fn [(.t 6)] R)) fun Q3 => cnd t12_2 (fun Q9 => Q9 .ret (upd (upd (upd (upd (upd (upd (Env.get [a0, a1, a2])
  6 (.bool false)) 9 a0) 10 t10_1) 11 a1) 12 t12_2) 6 (.bool false)) H) (fun Q10 => Q10 .normal (upd (upd (upd (upd (upd (Env.get [a0, a1, a2]) 6 (.bool false)) 9 a0) 10
  t10_1) 11 a1) 12 t12_2) H) Q3
theorem h29 (S : Sys) (a0 a1 a2 : Value) (H : Heap) (R : Kv) : wpC S k29.body (Env.get [a0, a1, a2]) H (fn [(.t 6)] R) = s29 S a0 a1 a2 H R := by kernel_rfl
theorem w29 {S : Sys} (hR : S.R 29 = none) (hF : S.F 29 = some k29) (a0 a1 a2 : Value) {H : Heap} {R : Kv} (h : s29 S a0 a1 a2 H R) : Wf S 29 [a0, a1, a2] H R := Wf_sh
  hR hF ((h29 S a0 a1 a2 H R).mpr h)
def b30_0 : KCode := (.block 1 (.seq (.reg [(.op (some 22) none (.mv (.t 7))), (.op (some 23) none (.mv (.t 6))), (.op (some 24) none (.call 79 [(.t 22), (.t 23)])),
  (.op (some 21) none (.mv (.t 24))), (.op (some 25) none (.xt (.t 21) 0)), (.op (some 26) none (.xt (.t 21) 1)), (.op (some 9) none (.alloc 112 [(.string (bs [])),
  (.int .i64 0), (.int .i64 0)])), (.op none none (.stn 3 (.t 9) (.t 25))), (.op (some 10) none (.mv (.t 26)))]) (.seq (.seq (.reg [(.op (some 27) none (.mv (.t 10))),
  (.op (some 28) none (.un .not (.t 27))), (.op (some 29) none (.mv (.t 28))), (.op (some 30) (some (29, false)) (.fad 0 (.t 9))), (.op (some 31) (some (29, false)) (.ld
  (.t 30))), (.op (some 32) (some (29, false)) (.lenS (.t 31))), (.op (some 33) (some (29, false)) (.mv (.t 1))), (.op (some 34) (some (29, false)) (.bin .gtr (.t 32)
  (.t 33))), (.op (some 35) none (.pick (.t 29) (.c (.bool true)) (.t 34)))]) (.cond (.t 35) (.seq (.reg [(.op (some 36) none (.mv (.t 8))), (.op (some 4) none (.mv (.t
  36)))]) .ret) .skip)) (.seq (.reg [(.op (some 37) none (.mv (.t 1))), (.op (some 38) none (.fad 0 (.t 9))), (.op (some 39) none (.ld (.t 38))), (.op (some 40) none
  (.lenS (.t 39))), (.op (some 41) none (.bin .sub (.t 37) (.t 40))), (.op (some 1) none (.mv (.t 41)))]) (.seq (.reg [(.op (some 42) none (.mv (.t 6))), (.op (some 43)
  none (.fad 0 (.t 9))), (.op (some 44) none (.ld (.t 43))), (.op (some 45) none (.call 80 [(.t 42), (.t 44)]))]) (.reg [(.op (some 46) none (.mv (.t 8))), (.op (some
  47) none (.fad 0 (.t 9))), (.op (some 48) none (.ld (.t 47))), (.op (some 49) none (.bsl 9 1 [(.string (bs []))] [(0, (1, (.t 48)))])), (.op (some 50) none (.app 9 1
  16 (.t 46) (.t 49))), (.op (some 8) none (.mv (.t 50)))]))))))
def s30_0 (S : Sys) (e : Fe) (H : Heap) (Q : Kx) : Prop := run S (.call 79 [(.c (e 7)), (.c (e 6))]) [] H fun t24_7 H => run S (.xt (.c t24_7) 0) [] H fun t25_8 H => run
  S (.xt (.c t24_7) 1) [] H fun t26_9 H => run S (.alloc 112 [(.string (bs [])), (.int .i64 0), (.int .i64 0)]) [] H fun t9_10 H => run S (.stn 3 (.c t9_10) (.c t25_8))
  [] H fun _ H => run S (.un .not (.c t26_9)) [] H fun t28_11 H => gd t28_11 false (run S (.fad 0 (.c t9_10)) [] H) H fun t30_12 H => gd t28_11 false (run S (.ld (.c
  t30_12)) [] H) H fun t31_13 H => gd t28_11 false (run S (.lenS (.c t31_13)) [] H) H fun t32_14 H => gd t28_11 false (run S (.mv (.c (e 1))) [] H) H fun t33_15 H => gd
  t28_11 false (run S (.bin .gtr (.c t32_14) (.c t33_15)) [] H) H fun t34_16 H => run S (.pick (.c t28_11) (.c (.bool true)) (.c t34_16)) [] H fun t35_17 H => jn (blk 1
  Q) fun Q18 => jn (sq (fun e20 H => run S (.fad 0 (.c (e20 9))) [] H fun t38_21 H => run S (.ld (.c t38_21)) [] H fun t39_22 H => run S (.lenS (.c t39_22)) [] H fun
  t40_23 H => run S (.bin .sub (.c (e20 1)) (.c t40_23)) [] H fun t41_24 H => run S (.fad 0 (.c (e20 9))) [] H fun t43_25 H => run S (.ld (.c t43_25)) [] H fun t44_26 H
  => run S (.call 80 [(.c (e20 6)), (.c t44_26)]) [] H fun t45_27 H => run S (.fad 0 (.c (e20 9))) [] H fun t47_28 H => run S (.ld (.c t47_28)) [] H fun t48_29 H => run
  S (.bsl 9 1 [(.string (bs []))] [(0, (1, (.c t48_29)))]) [] H fun t49_30 H => run S (.app 9 1 16 (.c (e20 8)) (.c t49_30)) [] H fun t50_31 H => Q18 .normal (upd (upd
  (upd (upd (upd (upd (upd (upd (upd (upd (upd (upd (upd (upd (upd (upd e20 37 (e20 1)) 38 t38_21) 39 t39_22) 40 t40_23) 41 t41_24) 1 t41_24) 42 (e20 6)) 43 t43_25) 44
  t44_26) 45 t45_27) 46 (e20 8)) 47 t47_28) 48 t48_29) 49 t49_30) 50 t50_31) 8 t50_31) H) Q18) fun Q19 => cnd t35_17 (fun Q32 => Q32 .ret (upd (upd (upd (upd (upd (upd
  (upd (upd (upd (upd (upd (upd (upd (upd (upd (upd (upd (upd (upd e 22 (e 7)) 23 (e 6)) 24 t24_7) 21 t24_7) 25 t25_8) 26 t26_9) 9 t9_10) 10 t26_9) 27 t26_9) 28 t28_11)
  29 t28_11) 30 t30_12) 31 t31_13) 32 t32_14) 33 t33_15) 34 t34_16) 35 t35_17) 36 (e 8)) 4 (e 8)) H) (fun Q33 => Q33 .normal (upd (upd (upd (upd (upd (upd (upd (upd (upd
  (upd (upd (upd (upd (upd (upd (upd (upd e 22 (e 7)) 23 (e 6)) 24 t24_7) 21 t24_7) 25 t25_8) 26 t26_9) 9 t9_10) 10 t26_9) 27 t26_9) 28 t28_11) 29 t28_11) 30 t30_12) 31
  t31_13) 32 t32_14) 33 t33_15) 34 t34_16) 35 t35_17) H) Q19
theorem h30_0 (S : Sys) (e : Fe) (H : Heap) (Q : Kx) : wpC S b30_0 e H Q = s30_0 S e H Q := by kernel_rfl
theorem l30_0 (S : Sys) {Q : Kx} (I : Nat → Fe → Heap → Prop) (d : Nat) {e0 : Fe} {H : Heap} (h0 : I d e0 H) (hr : ∀ (d : Nat) (e : Fe) (H : Heap), I d e H → s30_0 S e H
  (sq (fun e' H' => ∃ d', d' < d ∧ I d' e' H') Q)) : WL S b30_0 e0 H Q := WL_inv I d h0 fun d e H hi => (h30_0 S e H _).mpr (hr d e H hi)
theorem u30_0 (S : Sys) {Q : Kx} {e : Fe} {H : Heap} (h : s30_0 S e H (sq (fun e' H' => WL S b30_0 e' H' Q) Q)) : WL S b30_0 e H Q := WL_once ((h30_0 S e H _).mpr h)
def s30 (S : Sys) (a0 a1 : Value) (H : Heap) (R : Kv) : Prop := run S (.mx (.c a1) [(.c (.int .i64 0))]) [] H fun t12_1 H => run S (.mn (.c t12_1) [(.c (.int .i64
  256))]) [] H fun t13_2 H => run S (.call 76 [(.c a0)]) [] H fun t15_3 H => run S (.call 77 [(.c t15_3)]) [] H fun t17_4 H => run S (.call 78 [(.c t15_3), (.c t17_4)])
  [] H fun t20_5 H => jn (blk 0 (fn [(.t 4)] R)) fun Q6 => WL S b30_0 (upd (upd (upd (upd (upd (upd (upd (upd (upd (upd (upd (upd (upd (upd (upd (upd (Env.get [a0, a1])
  4 (.slice none 0 0)) 11 a1) 12 t12_1) 13 t13_2) 1 t13_2) 14 a0) 15 t15_3) 5 t15_3) 16 t15_3) 17 t17_4) 6 t17_4) 18 t15_3) 19 t17_4) 20 t20_5) 7 t20_5) 8 (.slice none 0
  0)) H Q6
theorem h30 (S : Sys) (a0 a1 : Value) (H : Heap) (R : Kv) : wpC S k30.body (Env.get [a0, a1]) H (fn [(.t 4)] R) = s30 S a0 a1 H R := by kernel_rfl
theorem w30 {S : Sys} (hR : S.R 30 = none) (hF : S.F 30 = some k30) (a0 a1 : Value) {H : Heap} {R : Kv} (h : s30 S a0 a1 H R) : Wf S 30 [a0, a1] H R := Wf_sh hR hF ((h30
  S a0 a1 H R).mpr h)
def b31_0 : KCode := (.seq (.reg [(.op (some 14) none (.bin .lss (.t 13) (.t 12)))]) (.seq (.cond (.t 14) .skip (.exit 0)) (.seq (.block 1 (.seq (.reg [(.op (some 15)
  none (.mv (.t 13))), (.op (some 5) none (.mv (.t 15)))]) (.seq (.reg [(.op (some 16) none (.mv (.t 0))), (.op (some 17) none (.mv (.t 5))), (.op (some 18) none (.iad 1
  (.t 16) (.t 17))), (.op (some 19) none (.ld (.t 18))), (.op (some 20) none (.mv (.t 1))), (.op (some 21) none (.mv (.t 5))), (.op (some 22) none (.iad 1 (.t 20) (.t
  21))), (.op (some 23) none (.ld (.t 22))), (.op (some 24) none (.bin .neq (.t 19) (.t 23)))]) (.cond (.t 24) (.seq (.reg [(.op (some 4) none (.mv (.c (.bool
  false))))]) .ret) .skip)))) (.reg [(.op (some 25) none (.bin .add (.t 13) (.c (.int .i64 1)))), (.op (some 13) none (.mv (.t 25)))]))))
def s31_0 (S : Sys) (e : Fe) (H : Heap) (Q : Kx) : Prop := run S (.bin .lss (.c (e 13)) (.c (e 12))) [] H fun t14_12 H => jn (sq (fun e14 H => jn (sq (fun e16 H => run S
  (.bin .add (.c (e16 13)) (.c (.int .i64 1))) [] H fun t25_17 H => Q .normal (upd (upd e16 25 t25_17) 13 t25_17) H) Q) fun Q15 => run S (.iad 1 (.c (e14 0)) (.c (e14
  13))) [] H fun t18_18 H => run S (.ld (.c t18_18)) [] H fun t19_19 H => run S (.iad 1 (.c (e14 1)) (.c (e14 13))) [] H fun t22_20 H => run S (.ld (.c t22_20)) [] H fun
  t23_21 H => run S (.bin .neq (.c t19_19) (.c t23_21)) [] H fun t24_22 H => jn (blk 1 Q15) fun Q23 => cnd t24_22 (fun Q24 => Q24 .ret (upd (upd (upd (upd (upd (upd (upd
  (upd (upd (upd (upd (upd e14 15 (e14 13)) 5 (e14 13)) 16 (e14 0)) 17 (e14 13)) 18 t18_18) 19 t19_19) 20 (e14 1)) 21 (e14 13)) 22 t22_20) 23 t23_21) 24 t24_22) 4 (.bool
  false)) H) (fun Q25 => Q25 .normal (upd (upd (upd (upd (upd (upd (upd (upd (upd (upd (upd e14 15 (e14 13)) 5 (e14 13)) 16 (e14 0)) 17 (e14 13)) 18 t18_18) 19 t19_19)
  20 (e14 1)) 21 (e14 13)) 22 t22_20) 23 t23_21) 24 t24_22) H) Q23) Q) fun Q13 => cnd t14_12 (fun Q26 => Q26 .normal (upd e 14 t14_12) H) (fun Q27 => Q27 (.exit 0) (upd
  e 14 t14_12) H) Q13
theorem h31_0 (S : Sys) (e : Fe) (H : Heap) (Q : Kx) : wpC S b31_0 e H Q = s31_0 S e H Q := by kernel_rfl
theorem l31_0 (S : Sys) {Q : Kx} (I : Nat → Fe → Heap → Prop) (d : Nat) {e0 : Fe} {H : Heap} (h0 : I d e0 H) (hr : ∀ (d : Nat) (e : Fe) (H : Heap), I d e H → s31_0 S e H
  (sq (fun e' H' => ∃ d', d' < d ∧ I d' e' H') Q)) : WL S b31_0 e0 H Q := WL_inv I d h0 fun d e H hi => (h31_0 S e H _).mpr (hr d e H hi)
theorem u31_0 (S : Sys) {Q : Kx} {e : Fe} {H : Heap} (h : s31_0 S e H (sq (fun e' H' => WL S b31_0 e' H' Q) Q)) : WL S b31_0 e H Q := WL_once ((h31_0 S e H _).mpr h)
def s31 (S : Sys) (a0 a1 : Value) (H : Heap) (R : Kv) : Prop := run S (.lenL (.c a0)) [] H fun t7_1 H => run S (.lenL (.c a1)) [] H fun t9_2 H => run S (.bin .neq (.c
  t7_1) (.c t9_2)) [] H fun t10_3 H => jn (sq (fun e5 H => run S (.lenL (.c (e5 0))) [] H fun t12_6 H => jn (sq (fun e8 H => R (.bool true) H) (fn [(.t 4)] R)) fun Q7 =>
  jn (blk 0 Q7) fun Q9 => WL S b31_0 (upd (upd (upd e5 11 (e5 0)) 12 t12_6) 13 (.int .i64 0)) H Q9) (fn [(.t 4)] R)) fun Q4 => cnd t10_3 (fun Q10 => Q10 .ret (upd (upd
  (upd (upd (upd (upd (upd (Env.get [a0, a1]) 4 (.bool false)) 6 a0) 7 t7_1) 8 a1) 9 t9_2) 10 t10_3) 4 (.bool false)) H) (fun Q11 => Q11 .normal (upd (upd (upd (upd (upd
  (upd (Env.get [a0, a1]) 4 (.bool false)) 6 a0) 7 t7_1) 8 a1) 9 t9_2) 10 t10_3) H) Q4
theorem h31 (S : Sys) (a0 a1 : Value) (H : Heap) (R : Kv) : wpC S k31.body (Env.get [a0, a1]) H (fn [(.t 4)] R) = s31 S a0 a1 H R := by kernel_rfl
theorem w31 {S : Sys} (hR : S.R 31 = none) (hF : S.F 31 = some k31) (a0 a1 : Value) {H : Heap} {R : Kv} (h : s31 S a0 a1 H R) : Wf S 31 [a0, a1] H R := Wf_sh hR hF ((h31
  S a0 a1 H R).mpr h)
def b32_2 : KCode := (.seq (.seq (.reg [(.op (some 30) none (.mv (.t 10))), (.op (some 31) none (.bin .geq (.t 30) (.c (.int .i64 6)))), (.op (some 32) none (.mv (.t
  31))), (.op (some 33) (some (32, true)) (.mv (.t 11))), (.op (some 34) (some (32, true)) (.mv (.t 10))), (.op (some 35) (some (32, true)) (.bin .add (.t 33) (.t 34))),
  (.op (some 36) (some (32, true)) (.mv (.t 5))), (.op (some 37) (some (32, true)) (.mv (.t 9))), (.op (some 38) (some (32, true)) (.iad 1 (.t 36) (.t 37))), (.op (some
  39) (some (32, true)) (.ld (.t 38))), (.op (some 40) (some (32, true)) (.lenS (.t 39))), (.op (some 41) (some (32, true)) (.bin .leq (.t 35) (.t 40))), (.op (some 42)
  none (.pick (.t 32) (.t 41) (.c (.bool false))))]) (.cond (.t 42) .skip (.exit 4))) (.seq (.block 5 (.seq (.reg [(.op (some 45) none (.mv (.t 5))), (.op (some 46) none
  (.mv (.t 5))), (.op (some 47) none (.mv (.t 9))), (.op (some 48) none (.iad 1 (.t 46) (.t 47))), (.op (some 49) none (.ld (.t 48))), (.op (some 50) none (.mv (.t
  11))), (.op (some 51) none (.mv (.t 11))), (.op (some 52) none (.mv (.t 10))), (.op (some 53) none (.bin .add (.t 51) (.t 52))), (.op (some 54) none (.slS (.t 49)
  (some (.t 50)) (some (.t 53)))), (.op (some 55) none (.mv (.t 6))), (.op (some 56) none (.call 35 [(.t 45), (.t 54), (.t 55)])), (.op (some 12) none (.mv (.t 56)))])
  (.seq (.reg [(.op (some 57) none (.mv (.t 12))), (.op (some 58) none (.mv (.t 8))), (.op (some 59) none (.bin .gtr (.t 57) (.t 58)))]) (.cond (.t 59) (.seq (.reg [(.op
  (some 60) none (.mv (.t 12))), (.op (some 8) none (.mv (.t 60)))]) (.reg [(.op (some 61) none (.mv (.t 5))), (.op (some 62) none (.mv (.t 9))), (.op (some 63) none
  (.iad 1 (.t 61) (.t 62))), (.op (some 64) none (.ld (.t 63))), (.op (some 65) none (.mv (.t 11))), (.op (some 66) none (.mv (.t 11))), (.op (some 67) none (.mv (.t
  10))), (.op (some 68) none (.bin .add (.t 66) (.t 67))), (.op (some 69) none (.slS (.t 64) (some (.t 65)) (some (.t 68)))), (.op (some 7) none (.mv (.t 69)))]))
  .skip)))) (.reg [(.op (some 43) none (.mv (.t 11))), (.op (some 44) none (.bin .add (.t 43) (.c (.int .i64 1)))), (.op (some 11) none (.mv (.t 44)))])))
def s32_2 (S : Sys) (e : Fe) (H : Heap) (Q : Kx) : Prop := run S (.bin .geq (.c (e 10)) (.c (.int .i64 6))) [] H fun t31_47 H => gd t31_47 true (run S (.mv (.c (e 11)))
  [] H) H fun t33_48 H => gd t31_47 true (run S (.mv (.c (e 10))) [] H) H fun t34_49 H => gd t31_47 true (run S (.bin .add (.c t33_48) (.c t34_49)) [] H) H fun t35_50 H
  => gd t31_47 true (run S (.mv (.c (e 5))) [] H) H fun t36_51 H => gd t31_47 true (run S (.mv (.c (e 9))) [] H) H fun t37_52 H => gd t31_47 true (run S (.iad 1 (.c
  t36_51) (.c t37_52)) [] H) H fun t38_53 H => gd t31_47 true (run S (.ld (.c t38_53)) [] H) H fun t39_54 H => gd t31_47 true (run S (.lenS (.c t39_54)) [] H) H fun
  t40_55 H => gd t31_47 true (run S (.bin .leq (.c t35_50) (.c t40_55)) [] H) H fun t41_56 H => run S (.pick (.c t31_47) (.c t41_56) (.c (.bool false))) [] H fun t42_57
  H => jn (sq (fun e59 H => jn (sq (fun e61 H => run S (.bin .add (.c (e61 11)) (.c (.int .i64 1))) [] H fun t44_62 H => Q .normal (upd (upd (upd e61 43 (e61 11)) 44
  t44_62) 11 t44_62) H) Q) fun Q60 => run S (.iad 1 (.c (e59 5)) (.c (e59 9))) [] H fun t48_63 H => run S (.ld (.c t48_63)) [] H fun t49_64 H => run S (.bin .add (.c
  (e59 11)) (.c (e59 10))) [] H fun t53_65 H => run S (.slS (.c t49_64) (some (.c (e59 11))) (some (.c t53_65))) [] H fun t54_66 H => run S (.call 35 [(.c (e59 5)), (.c
  t54_66), (.c (e59 6))]) [] H fun t56_67 H => run S (.bin .gtr (.c t56_67) (.c (e59 8))) [] H fun t59_68 H => jn (blk 5 Q60) fun Q69 => cnd t59_68 (fun Q70 => run S
  (.iad 1 (.c (e59 5)) (.c (e59 9))) [] H fun t63_72 H => run S (.ld (.c t63_72)) [] H fun t64_73 H => run S (.bin .add (.c (e59 11)) (.c (e59 10))) [] H fun t68_74 H =>
  run S (.slS (.c t64_73) (some (.c (e59 11))) (some (.c t68_74))) [] H fun t69_75 H => Q70 .normal (upd (upd (upd (upd (upd (upd (upd (upd (upd (upd (upd (upd (upd (upd
  (upd (upd (upd (upd (upd (upd (upd (upd (upd (upd (upd (upd (upd (upd e59 45 (e59 5)) 46 (e59 5)) 47 (e59 9)) 48 t48_63) 49 t49_64) 50 (e59 11)) 51 (e59 11)) 52 (e59
  10)) 53 t53_65) 54 t54_66) 55 (e59 6)) 56 t56_67) 12 t56_67) 57 t56_67) 58 (e59 8)) 59 t59_68) 60 t56_67) 8 t56_67) 61 (e59 5)) 62 (e59 9)) 63 t63_72) 64 t64_73) 65
  (e59 11)) 66 (e59 11)) 67 (e59 10)) 68 t68_74) 69 t69_75) 7 t69_75) H) (fun Q71 => Q71 .normal (upd (upd (upd (upd (upd (upd (upd (upd (upd (upd (upd (upd (upd (upd
  (upd (upd e59 45 (e59 5)) 46 (e59 5)) 47 (e59 9)) 48 t48_63) 49 t49_64) 50 (e59 11)) 51 (e59 11)) 52 (e59 10)) 53 t53_65) 54 t54_66) 55 (e59 6)) 56 t56_67) 12 t56_67)
  57 t56_67) 58 (e59 8)) 59 t59_68) H) Q69) Q) fun Q58 => cnd t42_57 (fun Q76 => Q76 .normal (upd (upd (upd (upd (upd (upd (upd (upd (upd (upd (upd (upd (upd e 30 (e
  10)) 31 t31_47) 32 t31_47) 33 t33_48) 34 t34_49) 35 t35_50) 36 t36_51) 37 t37_52) 38 t38_53) 39 t39_54) 40 t40_55) 41 t41_56) 42 t42_57) H) (fun Q77 => Q77 (.exit 4)
  (upd (upd (upd (upd (upd (upd (upd (upd (upd (upd (upd (upd (upd e 30 (e 10)) 31 t31_47) 32 t31_47) 33 t33_48) 34 t34_49) 35 t35_50) 36 t36_51) 37 t37_52) 38 t38_53)
  39 t39_54) 40 t40_55) 41 t41_56) 42 t42_57) H) Q58
theorem h32_2 (S : Sys) (e : Fe) (H : Heap) (Q : Kx) : wpC S b32_2 e H Q = s32_2 S e H Q := by kernel_rfl
theorem l32_2 (S : Sys) {Q : Kx} (I : Nat → Fe → Heap → Prop) (d : Nat) {e0 : Fe} {H : Heap} (h0 : I d e0 H) (hr : ∀ (d : Nat) (e : Fe) (H : Heap), I d e H → s32_2 S e H
  (sq (fun e' H' => ∃ d', d' < d ∧ I d' e' H') Q)) : WL S b32_2 e0 H Q := WL_inv I d h0 fun d e H hi => (h32_2 S e H _).mpr (hr d e H hi)
theorem u32_2 (S : Sys) {Q : Kx} {e : Fe} {H : Heap} (h : s32_2 S e H (sq (fun e' H' => WL S b32_2 e' H' Q) Q)) : WL S b32_2 e H Q := WL_once ((h32_2 S e H _).mpr h)
def b32_1 : KCode := (.seq (.seq (.reg [(.op (some 17) none (.mv (.t 9))), (.op (some 18) none (.mv (.t 5))), (.op (some 19) none (.lenL (.t 18))), (.op (some 20) none
  (.bin .lss (.t 17) (.t 19)))]) (.cond (.t 20) .skip (.exit 2))) (.seq (.block 3 (.seq (.reg [(.op (some 23) none (.mv (.t 5))), (.op (some 24) none (.mv (.t 9))), (.op
  (some 25) none (.iad 1 (.t 23) (.t 24))), (.op (some 26) none (.ld (.t 25))), (.op (some 27) none (.lenS (.t 26))), (.op (some 10) none (.mv (.t 27)))]) (.seq (.seq
  (.reg [(.op (some 28) none (.mv (.t 10))), (.op (some 29) none (.bin .gtr (.t 28) (.c (.int .i64 16))))]) (.cond (.t 29) (.reg [(.op (some 10) none (.mv (.c (.int .i64
  16))))]) .skip)) (.seq (.reg [(.op (some 11) none (.mv (.c (.int .i64 0))))]) (.block 4 (.loop (.seq (.seq (.reg [(.op (some 30) none (.mv (.t 10))), (.op (some 31)
  none (.bin .geq (.t 30) (.c (.int .i64 6)))), (.op (some 32) none (.mv (.t 31))), (.op (some 33) (some (32, true)) (.mv (.t 11))), (.op (some 34) (some (32, true))
  (.mv (.t 10))), (.op (some 35) (some (32, true)) (.bin .add (.t 33) (.t 34))), (.op (some 36) (some (32, true)) (.mv (.t 5))), (.op (some 37) (some (32, true)) (.mv
  (.t 9))), (.op (some 38) (some (32, true)) (.iad 1 (.t 36) (.t 37))), (.op (some 39) (some (32, true)) (.ld (.t 38))), (.op (some 40) (some (32, true)) (.lenS (.t
  39))), (.op (some 41) (some (32, true)) (.bin .leq (.t 35) (.t 40))), (.op (some 42) none (.pick (.t 32) (.t 41) (.c (.bool false))))]) (.cond (.t 42) .skip (.exit
  4))) (.seq (.block 5 (.seq (.reg [(.op (some 45) none (.mv (.t 5))), (.op (some 46) none (.mv (.t 5))), (.op (some 47) none (.mv (.t 9))), (.op (some 48) none (.iad 1
  (.t 46) (.t 47))), (.op (some 49) none (.ld (.t 48))), (.op (some 50) none (.mv (.t 11))), (.op (some 51) none (.mv (.t 11))), (.op (some 52) none (.mv (.t 10))), (.op
  (some 53) none (.bin .add (.t 51) (.t 52))), (.op (some 54) none (.slS (.t 49) (some (.t 50)) (some (.t 53)))), (.op (some 55) none (.mv (.t 6))), (.op (some 56) none
  (.call 35 [(.t 45), (.t 54), (.t 55)])), (.op (some 12) none (.mv (.t 56)))]) (.seq (.reg [(.op (some 57) none (.mv (.t 12))), (.op (some 58) none (.mv (.t 8))), (.op
  (some 59) none (.bin .gtr (.t 57) (.t 58)))]) (.cond (.t 59) (.seq (.reg [(.op (some 60) none (.mv (.t 12))), (.op (some 8) none (.mv (.t 60)))]) (.reg [(.op (some 61)
  none (.mv (.t 5))), (.op (some 62) none (.mv (.t 9))), (.op (some 63) none (.iad 1 (.t 61) (.t 62))), (.op (some 64) none (.ld (.t 63))), (.op (some 65) none (.mv (.t
  11))), (.op (some 66) none (.mv (.t 11))), (.op (some 67) none (.mv (.t 10))), (.op (some 68) none (.bin .add (.t 66) (.t 67))), (.op (some 69) none (.slS (.t 64)
  (some (.t 65)) (some (.t 68)))), (.op (some 7) none (.mv (.t 69)))])) .skip)))) (.reg [(.op (some 43) none (.mv (.t 11))), (.op (some 44) none (.bin .add (.t 43) (.c
  (.int .i64 1)))), (.op (some 11) none (.mv (.t 44)))]))))))))) (.reg [(.op (some 21) none (.mv (.t 9))), (.op (some 22) none (.bin .add (.t 21) (.c (.int .i64 1)))),
  (.op (some 9) none (.mv (.t 22)))])))
def s32_1 (S : Sys) (e : Fe) (H : Heap) (Q : Kx) : Prop := run S (.lenL (.c (e 5))) [] H fun t19_28 H => run S (.bin .lss (.c (e 9)) (.c t19_28)) [] H fun t20_29 H => jn
  (sq (fun e31 H => jn (sq (fun e33 H => run S (.bin .add (.c (e33 9)) (.c (.int .i64 1))) [] H fun t22_34 H => Q .normal (upd (upd (upd e33 21 (e33 9)) 22 t22_34) 9
  t22_34) H) Q) fun Q32 => run S (.iad 1 (.c (e31 5)) (.c (e31 9))) [] H fun t25_35 H => run S (.ld (.c t25_35)) [] H fun t26_36 H => run S (.lenS (.c t26_36)) [] H fun
  t27_37 H => run S (.bin .gtr (.c t27_37) (.c (.int .i64 16))) [] H fun t29_38 H => jn (blk 3 Q32) fun Q39 => jn (sq (fun e41 H => jn (blk 4 Q39) fun Q42 => WL S b32_2
  (upd e41 11 (.int .i64 0)) H Q42) Q39) fun Q40 => cnd t29_38 (fun Q43 => Q43 .normal (upd (upd (upd (upd (upd (upd (upd (upd (upd e31 23 (e31 5)) 24 (e31 9)) 25
  t25_35) 26 t26_36) 27 t27_37) 10 t27_37) 28 t27_37) 29 t29_38) 10 (.int .i64 16)) H) (fun Q44 => Q44 .normal (upd (upd (upd (upd (upd (upd (upd (upd e31 23 (e31 5)) 24
  (e31 9)) 25 t25_35) 26 t26_36) 27 t27_37) 10 t27_37) 28 t27_37) 29 t29_38) H) Q40) Q) fun Q30 => cnd t20_29 (fun Q45 => Q45 .normal (upd (upd (upd (upd e 17 (e 9)) 18
  (e 5)) 19 t19_28) 20 t20_29) H) (fun Q46 => Q46 (.exit 2) (upd (upd (upd (upd e 17 (e 9)) 18 (e 5)) 19 t19_28) 20 t20_29) H) Q30
theorem h32_1 (S : Sys) (e : Fe) (H : Heap) (Q : Kx) : wpC S b32_1 e H Q = s32_1 S e H Q := by kernel_rfl
theorem l32_1 (S : Sys) {Q : Kx} (I : Nat → Fe → Heap → Prop) (d : Nat) {e0 : Fe} {H : Heap} (h0 : I d e0 H) (hr : ∀ (d : Nat) (e : Fe) (H : Heap), I d e H → s32_1 S e H
  (sq (fun e' H' => ∃ d', d' < d ∧ I d' e' H') Q)) : WL S b32_1 e0 H Q := WL_inv I d h0 fun d e H hi => (h32_1 S e H _).mpr (hr d e H hi)
theorem u32_1 (S : Sys) {Q : Kx} {e : Fe} {H : Heap} (h : s32_1 S e H (sq (fun e' H' => WL S b32_1 e' H' Q) Q)) : WL S b32_1 e H Q := WL_once ((h32_1 S e H _).mpr h)
def b32_0 : KCode := (.block 1 (.seq (.reg [(.op (some 7) none (.mv (.c (.string (bs [])))))]) (.seq (.reg [(.op (some 8) none (.mv (.c (.int .i64 0))))]) (.seq (.seq
  (.reg [(.op (some 9) none (.mv (.c (.int .i64 0))))]) (.block 2 (.loop (.seq (.seq (.reg [(.op (some 17) none (.mv (.t 9))), (.op (some 18) none (.mv (.t 5))), (.op
  (some 19) none (.lenL (.t 18))), (.op (some 20) none (.bin .lss (.t 17) (.t 19)))]) (.cond (.t 20) .skip (.exit 2))) (.seq (.block 3 (.seq (.reg [(.op (some 23) none
  (.mv (.t 5))), (.op (some 24) none (.mv (.t 9))), (.op (some 25) none (.iad 1 (.t 23) (.t 24))), (.op (some 26) none (.ld (.t 25))), (.op (some 27) none (.lenS (.t
  26))), (.op (some 10) none (.mv (.t 27)))]) (.seq (.seq (.reg [(.op (some 28) none (.mv (.t 10))), (.op (some 29) none (.bin .gtr (.t 28) (.c (.int .i64 16))))])
  (.cond (.t 29) (.reg [(.op (some 10) none (.mv (.c (.int .i64 16))))]) .skip)) (.seq (.reg [(.op (some 11) none (.mv (.c (.int .i64 0))))]) (.block 4 (.loop (.seq
  (.seq (.reg [(.op (some 30) none (.mv (.t 10))), (.op (some 31) none (.bin .geq (.t 30) (.c (.int .i64 6)))), (.op (some 32) none (.mv (.t 31))), (.op (some 33) (some
  (32, true)) (.mv (.t 11))), (.op (some 34) (some (32, true)) (.mv (.t 10))), (.op (some 35) (some (32, true)) (.bin .add (.t 33) (.t 34))), (.op (some 36) (some (32,
  true)) (.mv (.t 5))), (.op (some 37) (some (32, true)) (.mv (.t 9))), (.op (some 38) (some (32, true)) (.iad 1 (.t 36) (.t 37))), (.op (some 39) (some (32, true)) (.ld
  (.t 38))), (.op (some 40) (some (32, true)) (.lenS (.t 39))), (.op (some 41) (some (32, true)) (.bin .leq (.t 35) (.t 40))), (.op (some 42) none (.pick (.t 32) (.t 41)
  (.c (.bool false))))]) (.cond (.t 42) .skip (.exit 4))) (.seq (.block 5 (.seq (.reg [(.op (some 45) none (.mv (.t 5))), (.op (some 46) none (.mv (.t 5))), (.op (some
  47) none (.mv (.t 9))), (.op (some 48) none (.iad 1 (.t 46) (.t 47))), (.op (some 49) none (.ld (.t 48))), (.op (some 50) none (.mv (.t 11))), (.op (some 51) none (.mv
  (.t 11))), (.op (some 52) none (.mv (.t 10))), (.op (some 53) none (.bin .add (.t 51) (.t 52))), (.op (some 54) none (.slS (.t 49) (some (.t 50)) (some (.t 53)))),
  (.op (some 55) none (.mv (.t 6))), (.op (some 56) none (.call 35 [(.t 45), (.t 54), (.t 55)])), (.op (some 12) none (.mv (.t 56)))]) (.seq (.reg [(.op (some 57) none
  (.mv (.t 12))), (.op (some 58) none (.mv (.t 8))), (.op (some 59) none (.bin .gtr (.t 57) (.t 58)))]) (.cond (.t 59) (.seq (.reg [(.op (some 60) none (.mv (.t 12))),
  (.op (some 8) none (.mv (.t 60)))]) (.reg [(.op (some 61) none (.mv (.t 5))), (.op (some 62) none (.mv (.t 9))), (.op (some 63) none (.iad 1 (.t 61) (.t 62))), (.op
  (some 64) none (.ld (.t 63))), (.op (some 65) none (.mv (.t 11))), (.op (some 66) none (.mv (.t 11))), (.op (some 67) none (.mv (.t 10))), (.op (some 68) none (.bin
  .add (.t 66) (.t 67))), (.op (some 69) none (.slS (.t 64) (some (.t 65)) (some (.t 68)))), (.op (some 7) none (.mv (.t 69)))])) .skip)))) (.reg [(.op (some 43) none
  (.mv (.t 11))), (.op (some 44) none (.bin .add (.t 43) (.c (.int .i64 1)))), (.op (some 11) none (.mv (.t 44)))]))))))))) (.reg [(.op (some 21) none (.mv (.t 9))),
  (.op (some 22) none (.bin .add (.t 21) (.c (.int .i64 1)))), (.op (some 9) none (.mv (.t 22)))])))))) (.seq (.seq (.reg [(.op (some 70) none (.mv (.t 8))), (.op (some
  71) none (.bin .eql (.t 70) (.c (.int .i64 0)))), (.op (some 72) none (.mv (.t 71))), (.op (some 73) (some (72, false)) (.mv (.t 7))), (.op (some 74) (some (72,
  false)) (.lenS (.t 73))), (.op (some 75) (some (72, false)) (.mv (.t 1))), (.op (some 76) (some (72, false)) (.bin .gtr (.t 74) (.t 75))), (.op (some 77) none (.pick
  (.t 72) (.c (.bool true)) (.t 76)))]) (.cond (.t 77) (.exit 0) .skip)) (.seq (.reg [(.op (some 78) none (.mv (.t 1))), (.op (some 79) none (.mv (.t 7))), (.op (some
  80) none (.lenS (.t 79))), (.op (some 81) none (.bin .sub (.t 78) (.t 80))), (.op (some 1) none (.mv (.t 81)))]) (.reg [(.op (some 82) none (.mv (.t 6))), (.op (some
  83) none (.mv (.t 7))), (.op (some 84) none (.bsl 9 1 [(.string (bs []))] [(0, (1, (.t 83)))])), (.op (some 85) none (.app 9 1 16 (.t 82) (.t 84))), (.op (some 6) none
  (.mv (.t 85)))])))))))
def s32_0 (S : Sys) (e : Fe) (H : Heap) (Q : Kx) : Prop := jn (blk 1 Q) fun Q10 => jn (sq (fun e12 H => run S (.bin .eql (.c (e12 8)) (.c (.int .i64 0))) [] H fun t71_13
  H => gd t71_13 false (run S (.mv (.c (e12 7))) [] H) H fun t73_14 H => gd t71_13 false (run S (.lenS (.c t73_14)) [] H) H fun t74_15 H => gd t71_13 false (run S (.mv
  (.c (e12 1))) [] H) H fun t75_16 H => gd t71_13 false (run S (.bin .gtr (.c t74_15) (.c t75_16)) [] H) H fun t76_17 H => run S (.pick (.c t71_13) (.c (.bool true)) (.c
  t76_17)) [] H fun t77_18 H => jn (sq (fun e20 H => run S (.lenS (.c (e20 7))) [] H fun t80_21 H => run S (.bin .sub (.c (e20 1)) (.c t80_21)) [] H fun t81_22 H => run
  S (.bsl 9 1 [(.string (bs []))] [(0, (1, (.c (e20 7))))]) [] H fun t84_23 H => run S (.app 9 1 16 (.c (e20 6)) (.c t84_23)) [] H fun t85_24 H => Q10 .normal (upd (upd
  (upd (upd (upd (upd (upd (upd (upd (upd e20 78 (e20 1)) 79 (e20 7)) 80 t80_21) 81 t81_22) 1 t81_22) 82 (e20 6)) 83 (e20 7)) 84 t84_23) 85 t85_24) 6 t85_24) H) Q10) fun
  Q19 => cnd t77_18 (fun Q25 => Q25 (.exit 0) (upd (upd (upd (upd (upd (upd (upd (upd e12 70 (e12 8)) 71 t71_13) 72 t71_13) 73 t73_14) 74 t74_15) 75 t75_16) 76 t76_17)
  77 t77_18) H) (fun Q26 => Q26 .normal (upd (upd (upd (upd (upd (upd (upd (upd e12 70 (e12 8)) 71 t71_13) 72 t71_13) 73 t73_14) 74 t74_15) 75 t75_16) 76 t76_17) 77
  t77_18) H) Q19) Q10) fun Q11 => jn (blk 2 Q11) fun Q27 => WL S b32_1 (upd (upd (upd e 7 (.string (bs []))) 8 (.int .i64 0)) 9 (.int .i64 0)) H Q27
theorem h32_0 (S : Sys) (e : Fe) (H : Heap) (Q : Kx) : wpC S b32_0 e H Q = s32_0 S e H Q := by kernel_rfl
theorem l32_0 (S : Sys) {Q : Kx} (I : Nat → Fe → Heap → Prop) (d : Nat) {e0 : Fe} {H : Heap} (h0 : I d e0 H) (hr : ∀ (d : Nat) (e : Fe) (H : Heap), I d e H → s32_0 S e H
  (sq (fun e' H' => ∃ d', d' < d ∧ I d' e' H') Q)) : WL S b32_0 e0 H Q := WL_inv I d h0 fun d e H hi => (h32_0 S e H _).mpr (hr d e H hi)
theorem u32_0 (S : Sys) {Q : Kx} {e : Fe} {H : Heap} (h : s32_0 S e H (sq (fun e' H' => WL S b32_0 e' H' Q) Q)) : WL S b32_0 e H Q := WL_once ((h32_0 S e H _).mpr h)
def s32 (S : Sys) (a0 a1 : Value) (H : Heap) (R : Kv) : Prop := run S (.call 36 [(.c a0)]) [] H fun t14_1 H => run S (.bin .gtr (.c a1) (.c (.int .i64 256))) [] H fun
  t16_2 H => jn (sq (fun e4 H => jn (sq (fun e6 H => R (e6 6) H) (fn [(.t 4)] R)) fun Q5 => jn (blk 0 Q5) fun Q7 => WL S b32_0 (upd e4 6 (.slice none 0 0)) H Q7) (fn
  [(.t 4)] R)) fun Q3 => cnd t16_2 (fun Q8 => Q8 .normal (upd (upd (upd (upd (upd (upd (upd (Env.get [a0, a1]) 4 (.slice none 0 0)) 13 a0) 14 t14_1) 5 t14_1) 15 a1) 16
  t16_2) 1 (.int .i64 256)) H) (fun Q9 => Q9 .normal (upd (upd (upd (upd (upd (upd (Env.get [a0, a1]) 4 (.slice none 0 0)) 13 a0) 14 t14_1) 5 t14_1) 15 a1) 16 t16_2) H)
  Q3
theorem h32 (S : Sys) (a0 a1 : Value) (H : Heap) (R : Kv) : wpC S k32.body (Env.get [a0, a1]) H (fn [(.t 4)] R) = s32 S a0 a1 H R := by kernel_rfl
theorem w32 {S : Sys} (hR : S.R 32 = none) (hF : S.F 32 = some k32) (a0 a1 : Value) {H : Heap} {R : Kv} (h : s32 S a0 a1 H R) : Wf S 32 [a0, a1] H R := Wf_sh hR hF ((h32
  S a0 a1 H R).mpr h)
def s33 (S : Sys) (a0 a1 : Value) (H : Heap) (R : Kv) : Prop := run S (.call 30 [(.c a0), (.c a1)]) [] H fun t8_1 H => run S (.call 81 [(.c t8_1)]) [] H fun t10_2 H =>
  run S (.call 82 [(.c t8_1), (.c (.string (bs [])))]) [] H fun t12_3 H => R t12_3 H
theorem h33 (S : Sys) (a0 a1 : Value) (H : Heap) (R : Kv) : wpC S k33.body (Env.get [a0, a1]) H (fn [(.t 4)] R) = s33 S a0 a1 H R := by kernel_rfl
theorem w33 {S : Sys} (hR : S.R 33 = none) (hF : S.F 33 = some k33) (a0 a1 : Value) {H : Heap} {R : Kv} (h : s33 S a0 a1 H R) : Wf S 33 [a0, a1] H R := Wf_sh hR hF ((h33
  S a0 a1 H R).mpr h)
def s34 (S : Sys) (a0 a1 : Value) (H : Heap) (R : Kv) : Prop := run S (.call 76 [(.c a0)]) [] H fun t6_1 H => run S (.call 77 [(.c t6_1)]) [] H fun t7_2 H => run S
  (.call 83 [(.c t7_2), (.c a1)]) [] H fun t9_3 H => R t9_3 H
theorem h34 (S : Sys) (a0 a1 : Value) (H : Heap) (R : Kv) : wpC S k34.body (Env.get [a0, a1]) H (fn [(.t 4)] R) = s34 S a0 a1 H R := by kernel_rfl
theorem w34 {S : Sys} (hR : S.R 34 = none) (hF : S.F 34 = some k34) (a0 a1 : Value) {H : Heap} {R : Kv} (h : s34 S a0 a1 H R) : Wf S 34 [a0, a1] H R := Wf_sh hR hF ((h34
  S a0 a1 H R).mpr h)
def b35_0 : KCode := (.seq (.seq (.reg [(.op (some 10) none (.mv (.t 8))), (.op (some 11) none (.bin .add (.t 10) (.c (.int .i64 6)))), (.op (some 12) none (.mv (.t
  1))), (.op (some 13) none (.lenS (.t 12))), (.op (some 14) none (.bin .leq (.t 11) (.t 13)))]) (.cond (.t 14) .skip (.exit 0))) (.seq (.block 1 (.seq (.reg [(.op (some
  17) none (.mv (.t 1))), (.op (some 18) none (.mv (.t 8))), (.op (some 19) none (.mv (.t 8))), (.op (some 20) none (.bin .add (.t 19) (.c (.int .i64 6)))), (.op (some
  21) none (.slS (.t 17) (some (.t 18)) (some (.t 20)))), (.op (some 9) none (.mv (.t 21)))]) (.seq (.seq (.reg [(.op (some 22) none (.mv (.t 1))), (.op (some 23) none
  (.mv (.t 8))), (.op (some 24) none (.bin .add (.t 23) (.c (.int .i64 5)))), (.op (some 25) none (.slS (.t 22) none (some (.t 24)))), (.op (some 26) none (.mv (.t 9))),
  (.op (some 27) none (.call 84 [(.t 25), (.t 26)])), (.op (some 28) none (.mv (.t 27))), (.op (some 29) (some (28, false)) (.mv (.t 2))), (.op (some 30) (some (28,
  false)) (.mv (.t 9))), (.op (some 31) (some (28, false)) (.call 85 [(.t 29), (.t 30)])), (.op (some 32) none (.pick (.t 28) (.c (.bool true)) (.t 31)))]) (.cond (.t
  32) (.exit 1) .skip)) (.reg [(.op (some 33) none (.mv (.t 7))), (.op (some 34) none (.mv (.t 0))), (.op (some 35) none (.mv (.t 9))), (.op (some 36) none (.call 86
  [(.t 34), (.t 35)])), (.op (some 37) none (.bin .add (.t 33) (.t 36))), (.op (some 7) none (.mv (.t 37)))])))) (.reg [(.op (some 15) none (.mv (.t 8))), (.op (some 16)
  none (.bin .add (.t 15) (.c (.int .i64 1)))), (.op (some 8) none (.mv (.t 16)))])))
def s35_0 (S : Sys) (e : Fe) (H : Heap) (Q : Kx) : Prop := run S (.bin .add (.c (e 8)) (.c (.int .i64 6))) [] H fun t11_4 H => run S (.lenS (.c (e 1))) [] H fun t13_5 H
  => run S (.bin .leq (.c t11_4) (.c t13_5)) [] H fun t14_6 H => jn (sq (fun e8 H => jn (sq (fun e10 H => run S (.bin .add (.c (e10 8)) (.c (.int .i64 1))) [] H fun
  t16_11 H => Q .normal (upd (upd (upd e10 15 (e10 8)) 16 t16_11) 8 t16_11) H) Q) fun Q9 => run S (.bin .add (.c (e8 8)) (.c (.int .i64 6))) [] H fun t20_12 H => run S
  (.slS (.c (e8 1)) (some (.c (e8 8))) (some (.c t20_12))) [] H fun t21_13 H => run S (.bin .add (.c (e8 8)) (.c (.int .i64 5))) [] H fun t24_14 H => run S (.slS (.c (e8
  1)) none (some (.c t24_14))) [] H fun t25_15 H => run S (.call 84 [(.c t25_15), (.c t21_13)]) [] H fun t27_16 H => gd t27_16 false (run S (.mv (.c (e8 2))) [] H) H fun
  t29_17 H => gd t27_16 false (run S (.mv (.c t21_13)) [] H) H fun t30_18 H => gd t27_16 false (run S (.call 85 [(.c t29_17), (.c t30_18)]) [] H) H fun t31_19 H => run S
  (.pick (.c t27_16) (.c (.bool true)) (.c t31_19)) [] H fun t32_20 H => jn (blk 1 Q9) fun Q21 => jn (sq (fun e23 H => run S (.call 86 [(.c (e23 0)), (.c (e23 9))]) [] H
  fun t36_24 H => run S (.bin .add (.c (e23 7)) (.c t36_24)) [] H fun t37_25 H => Q21 .normal (upd (upd (upd (upd (upd (upd e23 33 (e23 7)) 34 (e23 0)) 35 (e23 9)) 36
  t36_24) 37 t37_25) 7 t37_25) H) Q21) fun Q22 => cnd t32_20 (fun Q26 => Q26 (.exit 1) (upd (upd (upd (upd (upd (upd (upd (upd (upd (upd (upd (upd (upd (upd (upd (upd
  (upd e8 17 (e8 1)) 18 (e8 8)) 19 (e8 8)) 20 t20_12) 21 t21_13) 9 t21_13) 22 (e8 1)) 23 (e8 8)) 24 t24_14) 25 t25_15) 26 t21_13) 27 t27_16) 28 t27_16) 29 t29_17) 30
  t30_18) 31 t31_19) 32 t32_20) H) (fun Q27 => Q27 .normal (upd (upd (upd (upd (upd (upd (upd (upd (upd (upd (upd (upd (upd (upd (upd (upd (upd e8 17 (e8 1)) 18 (e8 8))
  19 (e8 8)) 20 t20_12) 21 t21_13) 9 t21_13) 22 (e8 1)) 23 (e8 8)) 24 t24_14) 25 t25_15) 26 t21_13) 27 t27_16) 28 t27_16) 29 t29_17) 30 t30_18) 31 t31_19) 32 t32_20) H)
  Q22) Q) fun Q7 => cnd t14_6 (fun Q28 => Q28 .normal (upd (upd (upd (upd (upd e 10 (e 8)) 11 t11_4) 12 (e 1)) 13 t13_5) 14 t14_6) H) (fun Q29 => Q29 (.exit 0) (upd (upd
  (upd (upd (upd e 10 (e 8)) 11 t11_4) 12 (e 1)) 13 t13_5) 14 t14_6) H) Q7
theorem h35_0 (S : Sys) (e : Fe) (H : Heap) (Q : Kx) : wpC S b35_0 e H Q = s35_0 S e H Q := by kernel_rfl
theorem l35_0 (S : Sys) {Q : Kx} (I : Nat → Fe → Heap → Prop) (d : Nat) {e0 : Fe} {H : Heap} (h0 : I d e0 H) (hr : ∀ (d : Nat) (e : Fe) (H : Heap), I d e H → s35_0 S e H
  (sq (fun e' H' => ∃ d', d' < d ∧ I d' e' H') Q)) : WL S b35_0 e0 H Q := WL_inv I d h0 fun d e H hi => (h35_0 S e H _).mpr (hr d e H hi)
theorem u35_0 (S : Sys) {Q : Kx} {e : Fe} {H : Heap} (h : s35_0 S e H (sq (fun e' H' => WL S b35_0 e' H' Q) Q)) : WL S b35_0 e H Q := WL_once ((h35_0 S e H _).mpr h)
def s35 (S : Sys) (a0 a1 a2 : Value) (H : Heap) (R : Kv) : Prop := jn (sq (fun e2 H => R (e2 7) H) (fn [(.t 6)] R)) fun Q1 => jn (blk 0 Q1) fun Q3 => WL S b35_0 (upd
  (upd (upd (Env.get [a0, a1, a2]) 6 (.int .i64 0)) 7 (.int .i64 0)) 8 (.int .i64 0)) H Q3
theorem h35 (S : Sys) (a0 a1 a2 : Value) (H : Heap) (R : Kv) : wpC S k35.body (Env.get [a0, a1, a2]) H (fn [(.t 6)] R) = s35 S a0 a1 a2 H R := by kernel_rfl
theorem w35 {S : Sys} (hR : S.R 35 = none) (hF : S.F 35 = some k35) (a0 a1 a2 : Value) {H : Heap} {R : Kv} (h : s35 S a0 a1 a2 H R) : Wf S 35 [a0, a1, a2] H R := Wf_sh
  hR hF ((h35 S a0 a1 a2 H R).mpr h)
def b36_0 : KCode := (.seq (.seq (.reg [(.op (some 6) none (.mv (.t 4))), (.op (some 7) none (.mv (.t 0))), (.op (some 8) none (.lenL (.t 7))), (.op (some 9) none (.bin
  .lss (.t 6) (.t 8))), (.op (some 10) none (.mv (.t 9))), (.op (some 11) (some (10, true)) (.mv (.t 4))), (.op (some 12) (some (10, true)) (.bin .lss (.t 11) (.c (.int
  .i64 64)))), (.op (some 13) none (.pick (.t 10) (.t 12) (.c (.bool false))))]) (.cond (.t 13) .skip (.exit 0))) (.seq (.block 1 (.seq (.reg [(.op (some 16) none (.mv
  (.t 0))), (.op (some 17) none (.mv (.t 4))), (.op (some 18) none (.iad 1 (.t 16) (.t 17))), (.op (some 19) none (.ld (.t 18))), (.op (some 5) none (.mv (.t 19)))])
  (.seq (.seq (.reg [(.op (some 20) none (.mv (.t 5))), (.op (some 21) none (.lenS (.t 20))), (.op (some 22) none (.bin .gtr (.t 21) (.c (.int .i64 512))))]) (.cond (.t
  22) (.reg [(.op (some 23) none (.mv (.t 5))), (.op (some 24) none (.slS (.t 23) none (some (.c (.int .i64 512))))), (.op (some 5) none (.mv (.t 24)))]) .skip)) (.reg
  [(.op (some 25) none (.mv (.t 3))), (.op (some 26) none (.mv (.t 5))), (.op (some 27) none (.bsl 9 1 [(.string (bs []))] [(0, (1, (.t 26)))])), (.op (some 28) none
  (.app 9 1 16 (.t 25) (.t 27))), (.op (some 3) none (.mv (.t 28)))])))) (.reg [(.op (some 14) none (.mv (.t 4))), (.op (some 15) none (.bin .add (.t 14) (.c (.int .i64
  1)))), (.op (some 4) none (.mv (.t 15)))])))
def s36_0 (S : Sys) (e : Fe) (H : Heap) (Q : Kx) : Prop := run S (.lenL (.c (e 0))) [] H fun t8_4 H => run S (.bin .lss (.c (e 4)) (.c t8_4)) [] H fun t9_5 H => gd t9_5
  true (run S (.mv (.c (e 4))) [] H) H fun t11_6 H => gd t9_5 true (run S (.bin .lss (.c t11_6) (.c (.int .i64 64))) [] H) H fun t12_7 H => run S (.pick (.c t9_5) (.c
  t12_7) (.c (.bool false))) [] H fun t13_8 H => jn (sq (fun e10 H => jn (sq (fun e12 H => run S (.bin .add (.c (e12 4)) (.c (.int .i64 1))) [] H fun t15_13 H => Q
  .normal (upd (upd (upd e12 14 (e12 4)) 15 t15_13) 4 t15_13) H) Q) fun Q11 => run S (.iad 1 (.c (e10 0)) (.c (e10 4))) [] H fun t18_14 H => run S (.ld (.c t18_14)) [] H
  fun t19_15 H => run S (.lenS (.c t19_15)) [] H fun t21_16 H => run S (.bin .gtr (.c t21_16) (.c (.int .i64 512))) [] H fun t22_17 H => jn (blk 1 Q11) fun Q18 => jn (sq
  (fun e20 H => run S (.bsl 9 1 [(.string (bs []))] [(0, (1, (.c (e20 5))))]) [] H fun t27_21 H => run S (.app 9 1 16 (.c (e20 3)) (.c t27_21)) [] H fun t28_22 H => Q18
  .normal (upd (upd (upd (upd (upd e20 25 (e20 3)) 26 (e20 5)) 27 t27_21) 28 t28_22) 3 t28_22) H) Q18) fun Q19 => cnd t22_17 (fun Q23 => run S (.slS (.c t19_15) none
  (some (.c (.int .i64 512)))) [] H fun t24_25 H => Q23 .normal (upd (upd (upd (upd (upd (upd (upd (upd (upd (upd (upd e10 16 (e10 0)) 17 (e10 4)) 18 t18_14) 19 t19_15)
  5 t19_15) 20 t19_15) 21 t21_16) 22 t22_17) 23 t19_15) 24 t24_25) 5 t24_25) H) (fun Q24 => Q24 .normal (upd (upd (upd (upd (upd (upd (upd (upd e10 16 (e10 0)) 17 (e10
  4)) 18 t18_14) 19 t19_15) 5 t19_15) 20 t19_15) 21 t21_16) 22 t22_17) H) Q19) Q) fun Q9 => cnd t13_8 (fun Q26 => Q26 .normal (upd (upd (upd (upd (upd (upd (upd (upd e 6
  (e 4)) 7 (e 0)) 8 t8_4) 9 t9_5) 10 t9_5) 11 t11_6) 12 t12_7) 13 t13_8) H) (fun Q27 => Q27 (.exit 0) (upd (upd (upd (upd (upd (upd (upd (upd e 6 (e 4)) 7 (e 0)) 8 t8_4)
  9 t9_5) 10 t9_5) 11 t11_6) 12 t12_7) 13 t13_8) H) Q9
theorem h36_0 (S : Sys) (e : Fe) (H : Heap) (Q : Kx) : wpC S b36_0 e H Q = s36_0 S e H Q := by kernel_rfl
theorem l36_0 (S : Sys) {Q : Kx} (I : Nat → Fe → Heap → Prop) (d : Nat) {e0 : Fe} {H : Heap} (h0 : I d e0 H) (hr : ∀ (d : Nat) (e : Fe) (H : Heap), I d e H → s36_0 S e H
  (sq (fun e' H' => ∃ d', d' < d ∧ I d' e' H') Q)) : WL S b36_0 e0 H Q := WL_inv I d h0 fun d e H hi => (h36_0 S e H _).mpr (hr d e H hi)
theorem u36_0 (S : Sys) {Q : Kx} {e : Fe} {H : Heap} (h : s36_0 S e H (sq (fun e' H' => WL S b36_0 e' H' Q) Q)) : WL S b36_0 e H Q := WL_once ((h36_0 S e H _).mpr h)
def s36 (S : Sys) (a0 : Value) (H : Heap) (R : Kv) : Prop := jn (sq (fun e2 H => R (e2 3) H) (fn [(.t 2)] R)) fun Q1 => jn (blk 0 Q1) fun Q3 => WL S b36_0 (upd (upd (upd
  (Env.get [a0]) 2 (.slice none 0 0)) 3 (.slice none 0 0)) 4 (.int .i64 0)) H Q3
theorem h36 (S : Sys) (a0 : Value) (H : Heap) (R : Kv) : wpC S k36.body (Env.get [a0]) H (fn [(.t 2)] R) = s36 S a0 H R := by kernel_rfl
theorem w36 {S : Sys} (hR : S.R 36 = none) (hF : S.F 36 = some k36) (a0 : Value) {H : Heap} {R : Kv} (h : s36 S a0 H R) : Wf S 36 [a0] H R := Wf_sh hR hF ((h36 S a0 H
  R).mpr h)
def b76_0 : KCode := (.seq (.reg [(.op (some 13) none (.bin .lss (.t 12) (.t 11)))]) (.seq (.cond (.t 13) .skip (.exit 0)) (.seq (.block 1 (.seq (.reg [(.op (some 14)
  none (.iad 1 (.t 10) (.t 12))), (.op (some 15) none (.ld (.t 14))), (.op (some 5) none (.mv (.t 15)))]) (.reg [(.op (some 16) none (.mv (.t 3))), (.op (some 17) none
  (.mv (.t 5))), (.op (some 18) none (.mv (.t 5))), (.op (some 19) none (.lenS (.t 18))), (.op (some 20) none (.mn (.t 19) [(.c (.int .i64 512))])), (.op (some 21) none
  (.slS (.t 17) none (some (.t 20)))), (.op (some 22) none (.bsl 9 1 [(.string (bs []))] [(0, (1, (.t 21)))])), (.op (some 23) none (.app 9 1 16 (.t 16) (.t 22))), (.op
  (some 3) none (.mv (.t 23)))]))) (.reg [(.op (some 24) none (.bin .add (.t 12) (.c (.int .i64 1)))), (.op (some 12) none (.mv (.t 24)))]))))
def s76_0 (S : Sys) (e : Fe) (H : Heap) (Q : Kx) : Prop := run S (.bin .lss (.c (e 12)) (.c (e 11))) [] H fun t13_8 H => jn (sq (fun e10 H => jn (sq (fun e12 H => run S
  (.bin .add (.c (e12 12)) (.c (.int .i64 1))) [] H fun t24_13 H => Q .normal (upd (upd e12 24 t24_13) 12 t24_13) H) Q) fun Q11 => run S (.iad 1 (.c (e10 10)) (.c (e10
  12))) [] H fun t14_14 H => run S (.ld (.c t14_14)) [] H fun t15_15 H => run S (.lenS (.c t15_15)) [] H fun t19_16 H => run S (.mn (.c t19_16) [(.c (.int .i64 512))])
  [] H fun t20_17 H => run S (.slS (.c t15_15) none (some (.c t20_17))) [] H fun t21_18 H => run S (.bsl 9 1 [(.string (bs []))] [(0, (1, (.c t21_18)))]) [] H fun t22_19
  H => run S (.app 9 1 16 (.c (e10 3)) (.c t22_19)) [] H fun t23_20 H => Q11 .normal (upd (upd (upd (upd (upd (upd (upd (upd (upd (upd (upd (upd e10 14 t14_14) 15
  t15_15) 5 t15_15) 16 (e10 3)) 17 t15_15) 18 t15_15) 19 t19_16) 20 t20_17) 21 t21_18) 22 t22_19) 23 t23_20) 3 t23_20) H) Q) fun Q9 => cnd t13_8 (fun Q21 => Q21 .normal
  (upd e 13 t13_8) H) (fun Q22 => Q22 (.exit 0) (upd e 13 t13_8) H) Q9
theorem h76_0 (S : Sys) (e : Fe) (H : Heap) (Q : Kx) : wpC S b76_0 e H Q = s76_0 S e H Q := by kernel_rfl
theorem l76_0 (S : Sys) {Q : Kx} (I : Nat → Fe → Heap → Prop) (d : Nat) {e0 : Fe} {H : Heap} (h0 : I d e0 H) (hr : ∀ (d : Nat) (e : Fe) (H : Heap), I d e H → s76_0 S e H
  (sq (fun e' H' => ∃ d', d' < d ∧ I d' e' H') Q)) : WL S b76_0 e0 H Q := WL_inv I d h0 fun d e H hi => (h76_0 S e H _).mpr (hr d e H hi)
theorem u76_0 (S : Sys) {Q : Kx} {e : Fe} {H : Heap} (h : s76_0 S e H (sq (fun e' H' => WL S b76_0 e' H' Q) Q)) : WL S b76_0 e H Q := WL_once ((h76_0 S e H _).mpr h)
def s76 (S : Sys) (a0 : Value) (H : Heap) (R : Kv) : Prop := run S (.lenL (.c a0)) [] H fun t8_1 H => run S (.mn (.c t8_1) [(.c (.int .i64 64))]) [] H fun t9_2 H => run
  S (.slc 9 1 (.c a0) none (some (.c t9_2))) [] H fun t10_3 H => run S (.lenL (.c t10_3)) [] H fun t11_4 H => jn (sq (fun e6 H => R (e6 3) H) (fn [(.t 2)] R)) fun Q5 =>
  jn (blk 0 Q5) fun Q7 => WL S b76_0 (upd (upd (upd (upd (upd (upd (upd (upd (upd (Env.get [a0]) 2 (.slice none 0 0)) 3 (.slice none 0 0)) 6 a0) 7 a0) 8 t8_1) 9 t9_2) 10
  t10_3) 11 t11_4) 12 (.int .i64 0)) H Q7
theorem h76 (S : Sys) (a0 : Value) (H : Heap) (R : Kv) : wpC S k76.body (Env.get [a0]) H (fn [(.t 2)] R) = s76 S a0 H R := by kernel_rfl
theorem w76 {S : Sys} (hR : S.R 76 = none) (hF : S.F 76 = some k76) (a0 : Value) {H : Heap} {R : Kv} (h : s76 S a0 H R) : Wf S 76 [a0] H R := Wf_sh hR hF ((h76 S a0 H
  R).mpr h)
def b77_1 : KCode := (.seq (.reg [(.op (some 20) none (.bin .lss (.t 19) (.t 18)))]) (.seq (.cond (.t 20) .skip (.exit 2)) (.seq (.block 3 (.seq (.reg [(.op (some 21)
  none (.iad 1 (.t 17) (.t 19))), (.op (some 22) none (.ld (.t 21))), (.op (some 7) none (.mv (.t 22)))]) (.reg [(.op (some 23) none (.mv (.t 3))), (.op (some 24) none
  (.mv (.t 7))), (.op (some 25) none (.lkp (.s .str) (.int .i64 0) false (.t 23) (.t 24))), (.op (some 26) none (.bin .add (.t 25) (.c (.int .i64 1)))), (.op none none
  (.mup (.s .str) (.t 23) (.t 24) (.t 26)))]))) (.reg [(.op (some 27) none (.bin .add (.t 19) (.c (.int .i64 1)))), (.op (some 19) none (.mv (.t 27)))]))))
def s77_1 (S : Sys) (e : Fe) (H : Heap) (Q : Kx) : Prop := run S (.bin .lss (.c (e 19)) (.c (e 18))) [] H fun t20_21 H => jn (sq (fun e23 H => jn (sq (fun e25 H => run S
  (.bin .add (.c (e25 19)) (.c (.int .i64 1))) [] H fun t27_26 H => Q .normal (upd (upd e25 27 t27_26) 19 t27_26) H) Q) fun Q24 => run S (.iad 1 (.c (e23 17)) (.c (e23
  19))) [] H fun t21_27 H => run S (.ld (.c t21_27)) [] H fun t22_28 H => run S (.lkp (.s .str) (.int .i64 0) false (.c (e23 3)) (.c t22_28)) [] H fun t25_29 H => run S
  (.bin .add (.c t25_29) (.c (.int .i64 1))) [] H fun t26_30 H => run S (.mup (.s .str) (.c (e23 3)) (.c t22_28) (.c t26_30)) [] H fun _ H => Q24 .normal (upd (upd (upd
  (upd (upd (upd (upd e23 21 t21_27) 22 t22_28) 7 t22_28) 23 (e23 3)) 24 t22_28) 25 t25_29) 26 t26_30) H) Q) fun Q22 => cnd t20_21 (fun Q31 => Q31 .normal (upd e 20
  t20_21) H) (fun Q32 => Q32 (.exit 2) (upd e 20 t20_21) H) Q22
theorem h77_1 (S : Sys) (e : Fe) (H : Heap) (Q : Kx) : wpC S b77_1 e H Q = s77_1 S e H Q := by kernel_rfl
theorem l77_1 (S : Sys) {Q : Kx} (I : Nat → Fe → Heap → Prop) (d : Nat) {e0 : Fe} {H : Heap} (h0 : I d e0 H) (hr : ∀ (d : Nat) (e : Fe) (H : Heap), I d e H → s77_1 S e H
  (sq (fun e' H' => ∃ d', d' < d ∧ I d' e' H') Q)) : WL S b77_1 e0 H Q := WL_inv I d h0 fun d e H hi => (h77_1 S e H _).mpr (hr d e H hi)
theorem u77_1 (S : Sys) {Q : Kx} {e : Fe} {H : Heap} (h : s77_1 S e H (sq (fun e' H' => WL S b77_1 e' H' Q) Q)) : WL S b77_1 e H Q := WL_once ((h77_1 S e H _).mpr h)
def b77_0 : KCode := (.seq (.reg [(.op (some 13) none (.bin .lss (.t 12) (.t 11)))]) (.seq (.cond (.t 13) .skip (.exit 0)) (.seq (.block 1 (.seq (.reg [(.op (some 14)
  none (.iad 1 (.t 10) (.t 12))), (.op (some 15) none (.ld (.t 14))), (.op (some 5) none (.mv (.t 15)))]) (.seq (.reg [(.op (some 16) none (.mv (.t 5))), (.op (some 17)
  none (.call 110 [(.t 16)])), (.op (some 18) none (.lenL (.t 17))), (.op (some 19) none (.mv (.c (.int .i64 0))))]) (.block 2 (.loop (.seq (.reg [(.op (some 20) none
  (.bin .lss (.t 19) (.t 18)))]) (.seq (.cond (.t 20) .skip (.exit 2)) (.seq (.block 3 (.seq (.reg [(.op (some 21) none (.iad 1 (.t 17) (.t 19))), (.op (some 22) none
  (.ld (.t 21))), (.op (some 7) none (.mv (.t 22)))]) (.reg [(.op (some 23) none (.mv (.t 3))), (.op (some 24) none (.mv (.t 7))), (.op (some 25) none (.lkp (.s .str)
  (.int .i64 0) false (.t 23) (.t 24))), (.op (some 26) none (.bin .add (.t 25) (.c (.int .i64 1)))), (.op none none (.mup (.s .str) (.t 23) (.t 24) (.t 26)))]))) (.reg
  [(.op (some 27) none (.bin .add (.t 19) (.c (.int .i64 1)))), (.op (some 19) none (.mv (.t 27)))]))))))))) (.reg [(.op (some 28) none (.bin .add (.t 12) (.c (.int .i64
  1)))), (.op (some 12) none (.mv (.t 28)))]))))
def s77_0 (S : Sys) (e : Fe) (H : Heap) (Q : Kx) : Prop := run S (.bin .lss (.c (e 12)) (.c (e 11))) [] H fun t13_7 H => jn (sq (fun e9 H => jn (sq (fun e11 H => run S
  (.bin .add (.c (e11 12)) (.c (.int .i64 1))) [] H fun t28_12 H => Q .normal (upd (upd e11 28 t28_12) 12 t28_12) H) Q) fun Q10 => run S (.iad 1 (.c (e9 10)) (.c (e9
  12))) [] H fun t14_13 H => run S (.ld (.c t14_13)) [] H fun t15_14 H => run S (.call 110 [(.c t15_14)]) [] H fun t17_15 H => run S (.lenL (.c t17_15)) [] H fun t18_16
  H => jn (blk 1 Q10) fun Q17 => jn (blk 2 Q17) fun Q18 => WL S b77_1 (upd (upd (upd (upd (upd (upd (upd e9 14 t14_13) 15 t15_14) 5 t15_14) 16 t15_14) 17 t17_15) 18
  t18_16) 19 (.int .i64 0)) H Q18) Q) fun Q8 => cnd t13_7 (fun Q19 => Q19 .normal (upd e 13 t13_7) H) (fun Q20 => Q20 (.exit 0) (upd e 13 t13_7) H) Q8
theorem h77_0 (S : Sys) (e : Fe) (H : Heap) (Q : Kx) : wpC S b77_0 e H Q = s77_0 S e H Q := by kernel_rfl
theorem l77_0 (S : Sys) {Q : Kx} (I : Nat → Fe → Heap → Prop) (d : Nat) {e0 : Fe} {H : Heap} (h0 : I d e0 H) (hr : ∀ (d : Nat) (e : Fe) (H : Heap), I d e H → s77_0 S e H
  (sq (fun e' H' => ∃ d', d' < d ∧ I d' e' H') Q)) : WL S b77_0 e0 H Q := WL_inv I d h0 fun d e H hi => (h77_0 S e H _).mpr (hr d e H hi)
theorem u77_0 (S : Sys) {Q : Kx} {e : Fe} {H : Heap} (h : s77_0 S e H (sq (fun e' H' => WL S b77_0 e' H' Q) Q)) : WL S b77_0 e H Q := WL_once ((h77_0 S e H _).mpr h)
def s77 (S : Sys) (a0 : Value) (H : Heap) (R : Kv) : Prop := run S .mkm [] H fun t9_1 H => run S (.lenL (.c a0)) [] H fun t11_2 H => jn (sq (fun e4 H => oT (kDec (.s
  .str) .sub (.int .i64 1) (e4 3) H) fun m2_5 H => R m2_5 H) (fn [(.t 2)] R)) fun Q3 => jn (blk 0 Q3) fun Q6 => WL S b77_0 (upd (upd (upd (upd (upd (upd (Env.get [a0]) 2
  (.map none)) 9 t9_1) 3 t9_1) 10 a0) 11 t11_2) 12 (.int .i64 0)) H Q6
theorem h77 (S : Sys) (a0 : Value) (H : Heap) (R : Kv) : wpC S k77.body (Env.get [a0]) H (fn [(.t 2)] R) = s77 S a0 H R := by kernel_rfl
theorem w77 {S : Sys} (hR : S.R 77 = none) (hF : S.F 77 = some k77) (a0 : Value) {H : Heap} {R : Kv} (h : s77 S a0 H R) : Wf S 77 [a0] H R := Wf_sh hR hF ((h77 S a0 H
  R).mpr h)
def b78_1 : KCode := (.seq (.seq (.reg [(.op (some 25) none (.mv (.t 9))), (.op (some 26) none (.mv (.t 8))), (.op (some 27) none (.bin .add (.t 25) (.t 26))), (.op
  (some 28) none (.mv (.t 7))), (.op (some 29) none (.lenS (.t 28))), (.op (some 30) none (.bin .leq (.t 27) (.t 29)))]) (.cond (.t 30) .skip (.exit 2))) (.seq (.block 3
  (.seq (.reg [(.op (some 33) none (.mv (.t 7))), (.op (some 34) none (.mv (.t 9))), (.op (some 35) none (.mv (.t 9))), (.op (some 36) none (.mv (.t 8))), (.op (some 37)
  none (.bin .add (.t 35) (.t 36))), (.op (some 38) none (.slS (.t 33) (some (.t 34)) (some (.t 37)))), (.op (some 10) none (.mv (.t 38)))]) (.reg [(.op (some 39) none
  (.mv (.t 5))), (.op (some 40) none (.mv (.t 5))), (.op (some 41) none (.nck (.t 40))), (.op (some 42) none (.ld (.t 41))), (.op (some 43) none (.mv (.t 10))), (.op
  (some 44) none (.mv (.t 1))), (.op (some 45) none (.mv (.t 10))), (.op (some 47) none (.mv (.t 5))), (.op (some 48) none (.nck (.t 47))), (.op (some 49) none (.ld (.t
  48))), (.op (some 50) none (.lenL (.t 49))), (.op (some 46) none (.call 83 [(.t 44), (.t 45)])), (.chk 42 none (.ld (.t 41))), (.chk 49 none (.ld (.t 48))), (.op (some
  51) none (.build [(.string (bs [])), (.int .i64 0), (.int .i64 0)] [(0, (1, (.t 43))), (1, (1, (.t 46))), (2, (1, (.t 50)))])), (.op (some 52) none (.bsl 112 1
  [(.string (bs [])), (.int .i64 0), (.int .i64 0)] [(0, (3, (.t 51)))])), (.chk 42 none (.ld (.t 41))), (.op (some 53) none (.app 112 3 32 (.t 42) (.t 52))), (.op (some
  54) none (.nck (.t 39))), (.op none none (.st (.t 54) (.t 53)))]))) (.reg [(.op (some 31) none (.mv (.t 9))), (.op (some 32) none (.bin .add (.t 31) (.c (.int .i64
  1)))), (.op (some 9) none (.mv (.t 32)))])))
def s78_1 (S : Sys) (e : Fe) (H : Heap) (Q : Kx) : Prop := run S (.bin .add (.c (e 9)) (.c (e 8))) [] H fun t27_29 H => run S (.lenS (.c (e 7))) [] H fun t29_30 H => run
  S (.bin .leq (.c t27_29) (.c t29_30)) [] H fun t30_31 H => jn (sq (fun e33 H => jn (sq (fun e35 H => run S (.bin .add (.c (e35 9)) (.c (.int .i64 1))) [] H fun t32_36
  H => Q .normal (upd (upd (upd e35 31 (e35 9)) 32 t32_36) 9 t32_36) H) Q) fun Q34 => run S (.bin .add (.c (e33 9)) (.c (e33 8))) [] H fun t37_37 H => run S (.slS (.c
  (e33 7)) (some (.c (e33 9))) (some (.c t37_37))) [] H fun t38_38 H => run S (.nck (.c (e33 5))) [] H fun t41_39 H => run S (.ld (.c t41_39)) [] H fun t42_40 H => run S
  (.nck (.c (e33 5))) [] H fun t48_41 H => run S (.ld (.c t48_41)) [] H fun t49_42 H => run S (.lenL (.c t49_42)) [] H fun t50_43 H => run S (.call 83 [(.c (e33 1)), (.c
  t38_38)]) [] H fun t46_44 H => ck (kop (.ld (.c t41_39)) [] H) t42_40 (ck (kop (.ld (.c t48_41)) [] H) t49_42 (run S (.build [(.string (bs [])), (.int .i64 0), (.int
  .i64 0)] [(0, (1, (.c t38_38))), (1, (1, (.c t46_44))), (2, (1, (.c t50_43)))]) [] H fun t51_45 H => run S (.bsl 112 1 [(.string (bs [])), (.int .i64 0), (.int .i64
  0)] [(0, (3, (.c t51_45)))]) [] H fun t52_46 H => ck (kop (.ld (.c t41_39)) [] H) t42_40 (run S (.app 112 3 32 (.c t42_40) (.c t52_46)) [] H fun t53_47 H => run S
  (.nck (.c (e33 5))) [] H fun t54_48 H => run S (.st (.c t54_48) (.c t53_47)) [] H fun _ H => Q34 .normal (upd (upd (upd (upd (upd (upd (upd (upd (upd (upd (upd (upd
  (upd (upd (upd (upd (upd (upd (upd (upd (upd (upd (upd e33 33 (e33 7)) 34 (e33 9)) 35 (e33 9)) 36 (e33 8)) 37 t37_37) 38 t38_38) 10 t38_38) 39 (e33 5)) 40 (e33 5)) 41
  t41_39) 42 t42_40) 43 t38_38) 44 (e33 1)) 45 t38_38) 47 (e33 5)) 48 t48_41) 49 t49_42) 50 t50_43) 46 t46_44) 51 t51_45) 52 t52_46) 53 t53_47) 54 t54_48) H)))) Q) fun
  Q32 => cnd t30_31 (fun Q49 => Q49 .normal (upd (upd (upd (upd (upd (upd e 25 (e 9)) 26 (e 8)) 27 t27_29) 28 (e 7)) 29 t29_30) 30 t30_31) H) (fun Q50 => Q50 (.exit 2)
  (upd (upd (upd (upd (upd (upd e 25 (e 9)) 26 (e 8)) 27 t27_29) 28 (e 7)) 29 t29_30) 30 t30_31) H) Q32
theorem h78_1 (S : Sys) (e : Fe) (H : Heap) (Q : Kx) : wpC S b78_1 e H Q = s78_1 S e H Q := by kernel_rfl
theorem l78_1 (S : Sys) {Q : Kx} (I : Nat → Fe → Heap → Prop) (d : Nat) {e0 : Fe} {H : Heap} (h0 : I d e0 H) (hr : ∀ (d : Nat) (e : Fe) (H : Heap), I d e H → s78_1 S e H
  (sq (fun e' H' => ∃ d', d' < d ∧ I d' e' H') Q)) : WL S b78_1 e0 H Q := WL_inv I d h0 fun d e H hi => (h78_1 S e H _).mpr (hr d e H hi)
theorem u78_1 (S : Sys) {Q : Kx} {e : Fe} {H : Heap} (h : s78_1 S e H (sq (fun e' H' => WL S b78_1 e' H' Q) Q)) : WL S b78_1 e H Q := WL_once ((h78_1 S e H _).mpr h)
def b78_0 : KCode := (.seq (.reg [(.op (some 16) none (.bin .lss (.t 15) (.t 14)))]) (.seq (.cond (.t 16) .skip (.exit 0)) (.seq (.block 1 (.seq (.reg [(.op (some 17)
  none (.iad 1 (.t 13) (.t 15))), (.op (some 18) none (.ld (.t 17))), (.op (some 7) none (.mv (.t 18)))]) (.seq (.seq (.reg [(.op (some 19) none (.mv (.t 7))), (.op
  (some 20) none (.lenS (.t 19))), (.op (some 21) none (.bin .lss (.t 20) (.c (.int .i64 6))))]) (.cond (.t 21) (.exit 1) .skip)) (.seq (.reg [(.op (some 22) none (.mv
  (.t 7))), (.op (some 23) none (.lenS (.t 22))), (.op (some 24) none (.mn (.c (.int .i64 16)) [(.t 23)])), (.op (some 8) none (.mv (.t 24)))]) (.seq (.reg [(.op (some
  9) none (.mv (.c (.int .i64 0))))]) (.block 2 (.loop (.seq (.seq (.reg [(.op (some 25) none (.mv (.t 9))), (.op (some 26) none (.mv (.t 8))), (.op (some 27) none (.bin
  .add (.t 25) (.t 26))), (.op (some 28) none (.mv (.t 7))), (.op (some 29) none (.lenS (.t 28))), (.op (some 30) none (.bin .leq (.t 27) (.t 29)))]) (.cond (.t 30)
  .skip (.exit 2))) (.seq (.block 3 (.seq (.reg [(.op (some 33) none (.mv (.t 7))), (.op (some 34) none (.mv (.t 9))), (.op (some 35) none (.mv (.t 9))), (.op (some 36)
  none (.mv (.t 8))), (.op (some 37) none (.bin .add (.t 35) (.t 36))), (.op (some 38) none (.slS (.t 33) (some (.t 34)) (some (.t 37)))), (.op (some 10) none (.mv (.t
  38)))]) (.reg [(.op (some 39) none (.mv (.t 5))), (.op (some 40) none (.mv (.t 5))), (.op (some 41) none (.nck (.t 40))), (.op (some 42) none (.ld (.t 41))), (.op
  (some 43) none (.mv (.t 10))), (.op (some 44) none (.mv (.t 1))), (.op (some 45) none (.mv (.t 10))), (.op (some 47) none (.mv (.t 5))), (.op (some 48) none (.nck (.t
  47))), (.op (some 49) none (.ld (.t 48))), (.op (some 50) none (.lenL (.t 49))), (.op (some 46) none (.call 83 [(.t 44), (.t 45)])), (.chk 42 none (.ld (.t 41))),
  (.chk 49 none (.ld (.t 48))), (.op (some 51) none (.build [(.string (bs [])), (.int .i64 0), (.int .i64 0)] [(0, (1, (.t 43))), (1, (1, (.t 46))), (2, (1, (.t
  50)))])), (.op (some 52) none (.bsl 112 1 [(.string (bs [])), (.int .i64 0), (.int .i64 0)] [(0, (3, (.t 51)))])), (.chk 42 none (.ld (.t 41))), (.op (some 53) none
  (.app 112 3 32 (.t 42) (.t 52))), (.op (some 54) none (.nck (.t 39))), (.op none none (.st (.t 54) (.t 53)))]))) (.reg [(.op (some 31) none (.mv (.t 9))), (.op (some
  32) none (.bin .add (.t 31) (.c (.int .i64 1)))), (.op (some 9) none (.mv (.t 32)))])))))))))) (.reg [(.op (some 55) none (.bin .add (.t 15) (.c (.int .i64 1)))), (.op
  (some 15) none (.mv (.t 55)))]))))
def s78_0 (S : Sys) (e : Fe) (H : Heap) (Q : Kx) : Prop := run S (.bin .lss (.c (e 15)) (.c (e 14))) [] H fun t16_9 H => jn (sq (fun e11 H => jn (sq (fun e13 H => run S
  (.bin .add (.c (e13 15)) (.c (.int .i64 1))) [] H fun t55_14 H => Q .normal (upd (upd e13 55 t55_14) 15 t55_14) H) Q) fun Q12 => run S (.iad 1 (.c (e11 13)) (.c (e11
  15))) [] H fun t17_15 H => run S (.ld (.c t17_15)) [] H fun t18_16 H => run S (.lenS (.c t18_16)) [] H fun t20_17 H => run S (.bin .lss (.c t20_17) (.c (.int .i64 6)))
  [] H fun t21_18 H => jn (blk 1 Q12) fun Q19 => jn (sq (fun e21 H => run S (.lenS (.c (e21 7))) [] H fun t23_22 H => run S (.mn (.c (.int .i64 16)) [(.c t23_22)]) [] H
  fun t24_23 H => jn (blk 2 Q19) fun Q24 => WL S b78_1 (upd (upd (upd (upd (upd e21 22 (e21 7)) 23 t23_22) 24 t24_23) 8 t24_23) 9 (.int .i64 0)) H Q24) Q19) fun Q20 =>
  cnd t21_18 (fun Q25 => Q25 (.exit 1) (upd (upd (upd (upd (upd (upd e11 17 t17_15) 18 t18_16) 7 t18_16) 19 t18_16) 20 t20_17) 21 t21_18) H) (fun Q26 => Q26 .normal (upd
  (upd (upd (upd (upd (upd e11 17 t17_15) 18 t18_16) 7 t18_16) 19 t18_16) 20 t20_17) 21 t21_18) H) Q20) Q) fun Q10 => cnd t16_9 (fun Q27 => Q27 .normal (upd e 16 t16_9)
  H) (fun Q28 => Q28 (.exit 0) (upd e 16 t16_9) H) Q10
theorem h78_0 (S : Sys) (e : Fe) (H : Heap) (Q : Kx) : wpC S b78_0 e H Q = s78_0 S e H Q := by kernel_rfl
theorem l78_0 (S : Sys) {Q : Kx} (I : Nat → Fe → Heap → Prop) (d : Nat) {e0 : Fe} {H : Heap} (h0 : I d e0 H) (hr : ∀ (d : Nat) (e : Fe) (H : Heap), I d e H → s78_0 S e H
  (sq (fun e' H' => ∃ d', d' < d ∧ I d' e' H') Q)) : WL S b78_0 e0 H Q := WL_inv I d h0 fun d e H hi => (h78_0 S e H _).mpr (hr d e H hi)
theorem u78_0 (S : Sys) {Q : Kx} {e : Fe} {H : Heap} (h : s78_0 S e H (sq (fun e' H' => WL S b78_0 e' H' Q) Q)) : WL S b78_0 e H Q := WL_once ((h78_0 S e H _).mpr h)
def s78 (S : Sys) (a0 a1 : Value) (H : Heap) (R : Kv) : Prop := run S (.bsl 112 0 [] []) [] H fun t11_1 H => run S (.box 145 (.c t11_1)) [] H fun t12_2 H => run S (.lenL
  (.c a0)) [] H fun t14_3 H => jn (sq (fun e5 H => run S (.mki 109 (.c (e5 5))) [] H fun t57_6 H => run S (.call 111 [(.c t57_6)]) [] H fun t58_7 H => R (e5 5) H) (fn
  [(.t 4)] R)) fun Q4 => jn (blk 0 Q4) fun Q8 => WL S b78_0 (upd (upd (upd (upd (upd (upd (upd (Env.get [a0, a1]) 4 (.pointer none)) 11 t11_1) 12 t12_2) 5 t12_2) 13 a0)
  14 t14_3) 15 (.int .i64 0)) H Q8
theorem h78 (S : Sys) (a0 a1 : Value) (H : Heap) (R : Kv) : wpC S k78.body (Env.get [a0, a1]) H (fn [(.t 4)] R) = s78 S a0 a1 H R := by kernel_rfl
theorem w78 {S : Sys} (hR : S.R 78 = none) (hF : S.F 78 = some k78) (a0 a1 : Value) {H : Heap} {R : Kv} (h : s78 S a0 a1 H R) : Wf S 78 [a0, a1] H R := Wf_sh hR hF ((h78
  S a0 a1 H R).mpr h)
def b79_0 : KCode := (.seq (.seq (.reg [(.op (some 9) none (.mv (.t 0))), (.op (some 10) none (.nck (.t 9))), (.op (some 11) none (.ld (.t 10))), (.op (some 12) none
  (.call 112 [(.t 11)])), (.op (some 13) none (.bin .gtr (.t 12) (.c (.int .i64 0))))]) (.cond (.t 13) .skip (.exit 0))) (.block 1 (.seq (.reg [(.op (some 15) none (.mv
  (.t 0))), (.op (some 16) none (.mki 109 (.t 15))), (.op (some 17) none (.call 113 [(.t 16)])), (.op (some 18) none (.tas 112 (.agg ([(.string (bs [])), (.int .i64 0),
  (.int .i64 0)]).toArray) true (.t 17))), (.op (some 14) none (.mv (.t 18))), (.op (some 19) none (.xt (.t 14) 0)), (.op (some 20) none (.xt (.t 14) 1)), (.op (some 6)
  none (.alloc 112 [(.string (bs [])), (.int .i64 0), (.int .i64 0)])), (.op none none (.stn 3 (.t 6) (.t 19))), (.op (some 7) none (.mv (.t 20)))]) (.seq (.seq (.reg
  [(.op (some 21) none (.mv (.t 1))), (.op (some 22) none (.fad 0 (.t 6))), (.op (some 23) none (.ld (.t 22))), (.op (some 24) none (.call 83 [(.t 21), (.t 23)])), (.op
  (some 8) none (.mv (.t 24)))]) (.seq (.reg [(.op (some 25) none (.mv (.t 8))), (.op (some 26) none (.fad 1 (.t 6))), (.op (some 27) none (.ld (.t 26))), (.op (some 28)
  none (.bin .neq (.t 25) (.t 27)))]) (.cond (.t 28) (.seq (.reg [(.op (some 29) none (.mv (.t 8))), (.op (some 30) none (.fad 1 (.t 6))), (.op none none (.st (.t 30)
  (.t 29)))]) (.seq (.reg [(.op (some 31) none (.mv (.t 0))), (.op (some 32) none (.mki 109 (.t 31))), (.op (some 33) none (.ldn 3 (.t 6))), (.op (some 34) none (.mki
  112 (.t 33))), (.op (some 35) none (.call 114 [(.t 32), (.t 34)]))]) (.exit 1))) .skip))) (.seq (.reg [(.op (some 36) none (.ldn 3 (.t 6))), (.op (some 37) none (.fad
  1 (.t 6))), (.op (some 38) none (.ld (.t 37))), (.op (some 39) none (.bin .gtr (.t 38) (.c (.int .i64 0)))), (.op none none (.stn 3 (.t 4) (.t 36))), (.chk 38 none
  (.ld (.t 37))), (.op (some 5) none (.mv (.t 39)))]) .ret)))))
def s79_0 (S : Sys) (e : Fe) (H : Heap) (Q : Kx) : Prop := run S (.nck (.c (e 0))) [] H fun t10_6 H => run S (.ld (.c t10_6)) [] H fun t11_7 H => run S (.call 112 [(.c
  t11_7)]) [] H fun t12_8 H => run S (.bin .gtr (.c t12_8) (.c (.int .i64 0))) [] H fun t13_9 H => jn (sq (fun e11 H => run S (.mki 109 (.c (e11 0))) [] H fun t16_12 H
  => run S (.call 113 [(.c t16_12)]) [] H fun t17_13 H => run S (.tas 112 (.agg ([(.string (bs [])), (.int .i64 0), (.int .i64 0)]).toArray) true (.c t17_13)) [] H fun
  t18_14 H => run S (.xt (.c t18_14) 0) [] H fun t19_15 H => run S (.xt (.c t18_14) 1) [] H fun t20_16 H => run S (.alloc 112 [(.string (bs [])), (.int .i64 0), (.int
  .i64 0)]) [] H fun t6_17 H => run S (.stn 3 (.c t6_17) (.c t19_15)) [] H fun _ H => run S (.fad 0 (.c t6_17)) [] H fun t22_18 H => run S (.ld (.c t22_18)) [] H fun
  t23_19 H => run S (.call 83 [(.c (e11 1)), (.c t23_19)]) [] H fun t24_20 H => run S (.fad 1 (.c t6_17)) [] H fun t26_21 H => run S (.ld (.c t26_21)) [] H fun t27_22 H
  => run S (.bin .neq (.c t24_20) (.c t27_22)) [] H fun t28_23 H => jn (blk 1 Q) fun Q24 => jn (sq (fun e26 H => run S (.ldn 3 (.c (e26 6))) [] H fun t36_27 H => run S
  (.fad 1 (.c (e26 6))) [] H fun t37_28 H => run S (.ld (.c t37_28)) [] H fun t38_29 H => run S (.bin .gtr (.c t38_29) (.c (.int .i64 0))) [] H fun t39_30 H => run S
  (.stn 3 (.c (e26 4)) (.c t36_27)) [] H fun _ H => ck (kop (.ld (.c t37_28)) [] H) t38_29 (Q24 .ret (upd (upd (upd (upd (upd e26 36 t36_27) 37 t37_28) 38 t38_29) 39
  t39_30) 5 t39_30) H)) Q24) fun Q25 => cnd t28_23 (fun Q31 => run S (.fad 1 (.c t6_17)) [] H fun t30_33 H => run S (.st (.c t30_33) (.c t24_20)) [] H fun _ H => run S
  (.mki 109 (.c (e11 0))) [] H fun t32_34 H => run S (.ldn 3 (.c t6_17)) [] H fun t33_35 H => run S (.mki 112 (.c t33_35)) [] H fun t34_36 H => run S (.call 114 [(.c
  t32_34), (.c t34_36)]) [] H fun t35_37 H => Q31 (.exit 1) (upd (upd (upd (upd (upd (upd (upd (upd (upd (upd (upd (upd (upd (upd (upd (upd (upd (upd (upd (upd (upd (upd
  (upd (upd (upd e11 15 (e11 0)) 16 t16_12) 17 t17_13) 18 t18_14) 14 t18_14) 19 t19_15) 20 t20_16) 6 t6_17) 7 t20_16) 21 (e11 1)) 22 t22_18) 23 t23_19) 24 t24_20) 8
  t24_20) 25 t24_20) 26 t26_21) 27 t27_22) 28 t28_23) 29 t24_20) 30 t30_33) 31 (e11 0)) 32 t32_34) 33 t33_35) 34 t34_36) 35 t35_37) H) (fun Q32 => Q32 .normal (upd (upd
  (upd (upd (upd (upd (upd (upd (upd (upd (upd (upd (upd (upd (upd (upd (upd (upd e11 15 (e11 0)) 16 t16_12) 17 t17_13) 18 t18_14) 14 t18_14) 19 t19_15) 20 t20_16) 6
  t6_17) 7 t20_16) 21 (e11 1)) 22 t22_18) 23 t23_19) 24 t24_20) 8 t24_20) 25 t24_20) 26 t26_21) 27 t27_22) 28 t28_23) H) Q25) Q) fun Q10 => cnd t13_9 (fun Q38 => Q38
  .normal (upd (upd (upd (upd (upd e 9 (e 0)) 10 t10_6) 11 t11_7) 12 t12_8) 13 t13_9) H) (fun Q39 => Q39 (.exit 0) (upd (upd (upd (upd (upd e 9 (e 0)) 10 t10_6) 11
  t11_7) 12 t12_8) 13 t13_9) H) Q10
theorem h79_0 (S : Sys) (e : Fe) (H : Heap) (Q : Kx) : wpC S b79_0 e H Q = s79_0 S e H Q := by kernel_rfl
theorem l79_0 (S : Sys) {Q : Kx} (I : Nat → Fe → Heap → Prop) (d : Nat) {e0 : Fe} {H : Heap} (h0 : I d e0 H) (hr : ∀ (d : Nat) (e : Fe) (H : Heap), I d e H → s79_0 S e H
  (sq (fun e' H' => ∃ d', d' < d ∧ I d' e' H') Q)) : WL S b79_0 e0 H Q := WL_inv I d h0 fun d e H hi => (h79_0 S e H _).mpr (hr d e H hi)
theorem u79_0 (S : Sys) {Q : Kx} {e : Fe} {H : Heap} (h : s79_0 S e H (sq (fun e' H' => WL S b79_0 e' H' Q) Q)) : WL S b79_0 e H Q := WL_once ((h79_0 S e H _).mpr h)
def s79 (S : Sys) (a0 a1 : Value) (H : Heap) (R : Kv) : Prop := run S (.alloc 112 [(.string (bs [])), (.int .i64 0), (.int .i64 0)]) [] H fun t4_1 H => jn (sq (fun e3 H
  => run S (.build [(.string (bs [])), (.int .i64 0), (.int .i64 0)] []) [] H fun t40_4 H => run S (.stn 3 (.c (e3 4)) (.c t40_4)) [] H fun _ H => (fn [(.cn 4 3), (.t
  5)] R) .ret (upd (upd e3 40 t40_4) 5 (.bool false)) H) (fn [(.cn 4 3), (.t 5)] R)) fun Q2 => jn (blk 0 Q2) fun Q5 => WL S b79_0 (upd (upd (Env.get [a0, a1]) 4 t4_1) 5
  (.bool false)) H Q5
theorem h79 (S : Sys) (a0 a1 : Value) (H : Heap) (R : Kv) : wpC S k79.body (Env.get [a0, a1]) H (fn [(.cn 4 3), (.t 5)] R) = s79 S a0 a1 H R := by kernel_rfl
theorem w79 {S : Sys} (hR : S.R 79 = none) (hF : S.F 79 = some k79) (a0 a1 : Value) {H : Heap} {R : Kv} (h : s79 S a0 a1 H R) : Wf S 79 [a0, a1] H R := Wf_sh hR hF ((h79
  S a0 a1 H R).mpr h)
def b80_0 : KCode := (.seq (.reg [(.op (some 10) none (.bin .lss (.t 9) (.t 8)))]) (.seq (.cond (.t 10) .skip (.exit 0)) (.seq (.block 1 (.seq (.reg [(.op (some 11) none
  (.iad 1 (.t 7) (.t 9))), (.op (some 12) none (.ld (.t 11))), (.op (some 5) none (.mv (.t 12)))]) (.reg [(.op (some 13) none (.mv (.t 0))), (.op (some 14) none (.mv (.t
  5))), (.op none none (.del (.s .str) (.t 13) (.t 14)))]))) (.reg [(.op (some 15) none (.bin .add (.t 9) (.c (.int .i64 1)))), (.op (some 9) none (.mv (.t 15)))]))))
def s80_0 (S : Sys) (e : Fe) (H : Heap) (Q : Kx) : Prop := run S (.bin .lss (.c (e 9)) (.c (e 8))) [] H fun t10_4 H => jn (sq (fun e6 H => jn (sq (fun e8 H => run S
  (.bin .add (.c (e8 9)) (.c (.int .i64 1))) [] H fun t15_9 H => Q .normal (upd (upd e8 15 t15_9) 9 t15_9) H) Q) fun Q7 => run S (.iad 1 (.c (e6 7)) (.c (e6 9))) [] H
  fun t11_10 H => run S (.ld (.c t11_10)) [] H fun t12_11 H => run S (.del (.s .str) (.c (e6 0)) (.c t12_11)) [] H fun _ H => Q7 .normal (upd (upd (upd (upd (upd e6 11
  t11_10) 12 t12_11) 5 t12_11) 13 (e6 0)) 14 t12_11) H) Q) fun Q5 => cnd t10_4 (fun Q12 => Q12 .normal (upd e 10 t10_4) H) (fun Q13 => Q13 (.exit 0) (upd e 10 t10_4) H)
  Q5
theorem h80_0 (S : Sys) (e : Fe) (H : Heap) (Q : Kx) : wpC S b80_0 e H Q = s80_0 S e H Q := by kernel_rfl
theorem l80_0 (S : Sys) {Q : Kx} (I : Nat → Fe → Heap → Prop) (d : Nat) {e0 : Fe} {H : Heap} (h0 : I d e0 H) (hr : ∀ (d : Nat) (e : Fe) (H : Heap), I d e H → s80_0 S e H
  (sq (fun e' H' => ∃ d', d' < d ∧ I d' e' H') Q)) : WL S b80_0 e0 H Q := WL_inv I d h0 fun d e H hi => (h80_0 S e H _).mpr (hr d e H hi)
theorem u80_0 (S : Sys) {Q : Kx} {e : Fe} {H : Heap} (h : s80_0 S e H (sq (fun e' H' => WL S b80_0 e' H' Q) Q)) : WL S b80_0 e H Q := WL_once ((h80_0 S e H _).mpr h)
def s80 (S : Sys) (a0 a1 : Value) (H : Heap) (R : Kv) : Prop := run S (.call 110 [(.c a1)]) [] H fun t7_1 H => run S (.lenL (.c t7_1)) [] H fun t8_2 H => jn (blk 0 (fn
  [] R)) fun Q3 => WL S b80_0 (upd (upd (upd (upd (Env.get [a0, a1]) 6 a1) 7 t7_1) 8 t8_2) 9 (.int .i64 0)) H Q3
theorem h80 (S : Sys) (a0 a1 : Value) (H : Heap) (R : Kv) : wpC S k80.body (Env.get [a0, a1]) H (fn [] R) = s80 S a0 a1 H R := by kernel_rfl
theorem w80 {S : Sys} (hR : S.R 80 = none) (hF : S.F 80 = some k80) (a0 a1 : Value) {H : Heap} {R : Kv} (h : s80 S a0 a1 H R) : Wf S 80 [a0, a1] H R := Wf_sh hR hF ((h80
  S a0 a1 H R).mpr h)
def b81_0 : KCode := (.seq (.seq (.reg [(.op (some 7) none (.mv (.t 2))), (.op (some 8) none (.mv (.t 3))), (.op (some 9) none (.bin .lss (.t 7) (.t 8)))]) (.cond (.t 9)
  .skip (.exit 0))) (.seq (.block 1 (.reg [(.op (some 14) none (.mv (.t 0))), (.op (some 15) none (.mv (.t 2))), (.op (some 16) none (.mv (.t 0))), (.op (some 17) none
  (.mv (.t 3))), (.op (some 18) none (.mv (.t 0))), (.op (some 19) none (.mv (.t 3))), (.op (some 20) none (.iad 1 (.t 18) (.t 19))), (.op (some 21) none (.ld (.t 20))),
  (.op (some 22) none (.mv (.t 0))), (.op (some 23) none (.mv (.t 2))), (.op (some 24) none (.iad 1 (.t 22) (.t 23))), (.op (some 25) none (.ld (.t 24))), (.op (some 26)
  none (.iad 1 (.t 14) (.t 15))), (.op none none (.st (.t 26) (.t 21))), (.op (some 27) none (.iad 1 (.t 16) (.t 17))), (.op none none (.st (.t 27) (.t 25)))])) (.reg
  [(.op (some 10) none (.mv (.t 2))), (.op (some 11) none (.bin .add (.t 10) (.c (.int .i64 1)))), (.op (some 12) none (.mv (.t 3))), (.op (some 13) none (.bin .sub (.t
  12) (.c (.int .i64 1)))), (.op (some 2) none (.mv (.t 11))), (.op (some 3) none (.mv (.t 13)))])))
def s81_0 (S : Sys) (e : Fe) (H : Heap) (Q : Kx) : Prop := run S (.bin .lss (.c (e 2)) (.c (e 3))) [] H fun t9_4 H => jn (sq (fun e6 H => jn (sq (fun e8 H => run S (.bin
  .add (.c (e8 2)) (.c (.int .i64 1))) [] H fun t11_9 H => run S (.bin .sub (.c (e8 3)) (.c (.int .i64 1))) [] H fun t13_10 H => Q .normal (upd (upd (upd (upd (upd (upd
  e8 10 (e8 2)) 11 t11_9) 12 (e8 3)) 13 t13_10) 2 t11_9) 3 t13_10) H) Q) fun Q7 => run S (.iad 1 (.c (e6 0)) (.c (e6 3))) [] H fun t20_11 H => run S (.ld (.c t20_11)) []
  H fun t21_12 H => run S (.iad 1 (.c (e6 0)) (.c (e6 2))) [] H fun t24_13 H => run S (.ld (.c t24_13)) [] H fun t25_14 H => run S (.iad 1 (.c (e6 0)) (.c (e6 2))) [] H
  fun t26_15 H => run S (.st (.c t26_15) (.c t21_12)) [] H fun _ H => run S (.iad 1 (.c (e6 0)) (.c (e6 3))) [] H fun t27_16 H => run S (.st (.c t27_16) (.c t25_14)) []
  H fun _ H => Q7 .normal (upd (upd (upd (upd (upd (upd (upd (upd (upd (upd (upd (upd (upd (upd e6 14 (e6 0)) 15 (e6 2)) 16 (e6 0)) 17 (e6 3)) 18 (e6 0)) 19 (e6 3)) 20
  t20_11) 21 t21_12) 22 (e6 0)) 23 (e6 2)) 24 t24_13) 25 t25_14) 26 t26_15) 27 t27_16) H) Q) fun Q5 => cnd t9_4 (fun Q17 => Q17 .normal (upd (upd (upd e 7 (e 2)) 8 (e
  3)) 9 t9_4) H) (fun Q18 => Q18 (.exit 0) (upd (upd (upd e 7 (e 2)) 8 (e 3)) 9 t9_4) H) Q5
theorem h81_0 (S : Sys) (e : Fe) (H : Heap) (Q : Kx) : wpC S b81_0 e H Q = s81_0 S e H Q := by kernel_rfl
theorem l81_0 (S : Sys) {Q : Kx} (I : Nat → Fe → Heap → Prop) (d : Nat) {e0 : Fe} {H : Heap} (h0 : I d e0 H) (hr : ∀ (d : Nat) (e : Fe) (H : Heap), I d e H → s81_0 S e H
  (sq (fun e' H' => ∃ d', d' < d ∧ I d' e' H') Q)) : WL S b81_0 e0 H Q := WL_inv I d h0 fun d e H hi => (h81_0 S e H _).mpr (hr d e H hi)
theorem u81_0 (S : Sys) {Q : Kx} {e : Fe} {H : Heap} (h : s81_0 S e H (sq (fun e' H' => WL S b81_0 e' H' Q) Q)) : WL S b81_0 e H Q := WL_once ((h81_0 S e H _).mpr h)
def s81 (S : Sys) (a0 : Value) (H : Heap) (R : Kv) : Prop := run S (.lenL (.c a0)) [] H fun t5_1 H => run S (.bin .sub (.c t5_1) (.c (.int .i64 1))) [] H fun t6_2 H =>
  jn (blk 0 (fn [] R)) fun Q3 => WL S b81_0 (upd (upd (upd (upd (upd (Env.get [a0]) 4 a0) 5 t5_1) 6 t6_2) 2 (.int .i64 0)) 3 t6_2) H Q3
theorem h81 (S : Sys) (a0 : Value) (H : Heap) (R : Kv) : wpC S k81.body (Env.get [a0]) H (fn [] R) = s81 S a0 H R := by kernel_rfl
theorem w81 {S : Sys} (hR : S.R 81 = none) (hF : S.F 81 = some k81) (a0 : Value) {H : Heap} {R : Kv} (h : s81 S a0 H R) : Wf S 81 [a0] H R := Wf_sh hR hF ((h81 S a0 H
  R).mpr h)
def b83_0 : KCode := (.seq (.reg [(.op (some 12) none (.bin .lss (.t 11) (.t 10)))]) (.seq (.cond (.t 12) .skip (.exit 0)) (.seq (.block 1 (.seq (.reg [(.op (some 13)
  none (.iad 1 (.t 9) (.t 11))), (.op (some 14) none (.ld (.t 13))), (.op (some 7) none (.mv (.t 14)))]) (.reg [(.op (some 15) none (.mv (.t 5))), (.op (some 16) none
  (.mv (.t 0))), (.op (some 17) none (.mv (.t 7))), (.op (some 18) none (.lkp (.s .str) (.int .i64 0) false (.t 16) (.t 17))), (.op (some 19) none (.bin .add (.t 15) (.t
  18))), (.op (some 5) none (.mv (.t 19)))]))) (.reg [(.op (some 20) none (.bin .add (.t 11) (.c (.int .i64 1)))), (.op (some 11) none (.mv (.t 20)))]))))
def s83_0 (S : Sys) (e : Fe) (H : Heap) (Q : Kx) : Prop := run S (.bin .lss (.c (e 11)) (.c (e 10))) [] H fun t12_6 H => jn (sq (fun e8 H => jn (sq (fun e10 H => run S
  (.bin .add (.c (e10 11)) (.c (.int .i64 1))) [] H fun t20_11 H => Q .normal (upd (upd e10 20 t20_11) 11 t20_11) H) Q) fun Q9 => run S (.iad 1 (.c (e8 9)) (.c (e8 11)))
  [] H fun t13_12 H => run S (.ld (.c t13_12)) [] H fun t14_13 H => run S (.lkp (.s .str) (.int .i64 0) false (.c (e8 0)) (.c t14_13)) [] H fun t18_14 H => run S (.bin
  .add (.c (e8 5)) (.c t18_14)) [] H fun t19_15 H => Q9 .normal (upd (upd (upd (upd (upd (upd (upd (upd (upd e8 13 t13_12) 14 t14_13) 7 t14_13) 15 (e8 5)) 16 (e8 0)) 17
  t14_13) 18 t18_14) 19 t19_15) 5 t19_15) H) Q) fun Q7 => cnd t12_6 (fun Q16 => Q16 .normal (upd e 12 t12_6) H) (fun Q17 => Q17 (.exit 0) (upd e 12 t12_6) H) Q7
theorem h83_0 (S : Sys) (e : Fe) (H : Heap) (Q : Kx) : wpC S b83_0 e H Q = s83_0 S e H Q := by kernel_rfl
theorem l83_0 (S : Sys) {Q : Kx} (I : Nat → Fe → Heap → Prop) (d : Nat) {e0 : Fe} {H : Heap} (h0 : I d e0 H) (hr : ∀ (d : Nat) (e : Fe) (H : Heap), I d e H → s83_0 S e H
  (sq (fun e' H' => ∃ d', d' < d ∧ I d' e' H') Q)) : WL S b83_0 e0 H Q := WL_inv I d h0 fun d e H hi => (h83_0 S e H _).mpr (hr d e H hi)
theorem u83_0 (S : Sys) {Q : Kx} {e : Fe} {H : Heap} (h : s83_0 S e H (sq (fun e' H' => WL S b83_0 e' H' Q) Q)) : WL S b83_0 e H Q := WL_once ((h83_0 S e H _).mpr h)
def s83 (S : Sys) (a0 a1 : Value) (H : Heap) (R : Kv) : Prop := run S (.call 110 [(.c a1)]) [] H fun t9_1 H => run S (.lenL (.c t9_1)) [] H fun t10_2 H => jn (sq (fun e4
  H => R (e4 5) H) (fn [(.t 4)] R)) fun Q3 => jn (blk 0 Q3) fun Q5 => WL S b83_0 (upd (upd (upd (upd (upd (upd (Env.get [a0, a1]) 4 (.int .i64 0)) 5 (.int .i64 0)) 8 a1)
  9 t9_1) 10 t10_2) 11 (.int .i64 0)) H Q5
theorem h83 (S : Sys) (a0 a1 : Value) (H : Heap) (R : Kv) : wpC S k83.body (Env.get [a0, a1]) H (fn [(.t 4)] R) = s83 S a0 a1 H R := by kernel_rfl
theorem w83 {S : Sys} (hR : S.R 83 = none) (hF : S.F 83 = some k83) (a0 a1 : Value) {H : Heap} {R : Kv} (h : s83 S a0 a1 H R) : Wf S 83 [a0, a1] H R := Wf_sh hR hF ((h83
  S a0 a1 H R).mpr h)
def b84_0 : KCode := (.seq (.seq (.reg [(.op (some 6) none (.mv (.t 5))), (.op (some 7) none (.mv (.t 1))), (.op (some 8) none (.lenS (.t 7))), (.op (some 9) none (.bin
  .add (.t 6) (.t 8))), (.op (some 10) none (.mv (.t 0))), (.op (some 11) none (.lenS (.t 10))), (.op (some 12) none (.bin .leq (.t 9) (.t 11)))]) (.cond (.t 12) .skip
  (.exit 0))) (.seq (.block 1 (.seq (.reg [(.op (some 15) none (.mv (.t 0))), (.op (some 16) none (.mv (.t 5))), (.op (some 17) none (.mv (.t 5))), (.op (some 18) none
  (.mv (.t 1))), (.op (some 19) none (.lenS (.t 18))), (.op (some 20) none (.bin .add (.t 17) (.t 19))), (.op (some 21) none (.slS (.t 15) (some (.t 16)) (some (.t
  20)))), (.op (some 22) none (.mv (.t 1))), (.op (some 23) none (.bin .eql (.t 21) (.t 22)))]) (.cond (.t 23) (.seq (.reg [(.op (some 4) none (.mv (.c (.bool true))))])
  .ret) .skip))) (.reg [(.op (some 13) none (.mv (.t 5))), (.op (some 14) none (.bin .add (.t 13) (.c (.int .i64 1)))), (.op (some 5) none (.mv (.t 14)))])))
def s84_0 (S : Sys) (e : Fe) (H : Heap) (Q : Kx) : Prop := run S (.lenS (.c (e 1))) [] H fun t8_4 H => run S (.bin .add (.c (e 5)) (.c t8_4)) [] H fun t9_5 H => run S
  (.lenS (.c (e 0))) [] H fun t11_6 H => run S (.bin .leq (.c t9_5) (.c t11_6)) [] H fun t12_7 H => jn (sq (fun e9 H => jn (sq (fun e11 H => run S (.bin .add (.c (e11
  5)) (.c (.int .i64 1))) [] H fun t14_12 H => Q .normal (upd (upd (upd e11 13 (e11 5)) 14 t14_12) 5 t14_12) H) Q) fun Q10 => run S (.lenS (.c (e9 1))) [] H fun t19_13 H
  => run S (.bin .add (.c (e9 5)) (.c t19_13)) [] H fun t20_14 H => run S (.slS (.c (e9 0)) (some (.c (e9 5))) (some (.c t20_14))) [] H fun t21_15 H => run S (.bin .eql
  (.c t21_15) (.c (e9 1))) [] H fun t23_16 H => jn (blk 1 Q10) fun Q17 => cnd t23_16 (fun Q18 => Q18 .ret (upd (upd (upd (upd (upd (upd (upd (upd (upd (upd e9 15 (e9 0))
  16 (e9 5)) 17 (e9 5)) 18 (e9 1)) 19 t19_13) 20 t20_14) 21 t21_15) 22 (e9 1)) 23 t23_16) 4 (.bool true)) H) (fun Q19 => Q19 .normal (upd (upd (upd (upd (upd (upd (upd
  (upd (upd e9 15 (e9 0)) 16 (e9 5)) 17 (e9 5)) 18 (e9 1)) 19 t19_13) 20 t20_14) 21 t21_15) 22 (e9 1)) 23 t23_16) H) Q17) Q) fun Q8 => cnd t12_7 (fun Q20 => Q20 .normal
  (upd (upd (upd (upd (upd (upd (upd e 6 (e 5)) 7 (e 1)) 8 t8_4) 9 t9_5) 10 (e 0)) 11 t11_6) 12 t12_7) H) (fun Q21 => Q21 (.exit 0) (upd (upd (upd (upd (upd (upd (upd e
  6 (e 5)) 7 (e 1)) 8 t8_4) 9 t9_5) 10 (e 0)) 11 t11_6) 12 t12_7) H) Q8
theorem h84_0 (S : Sys) (e : Fe) (H : Heap) (Q : Kx) : wpC S b84_0 e H Q = s84_0 S e H Q := by kernel_rfl
theorem l84_0 (S : Sys) {Q : Kx} (I : Nat → Fe → Heap → Prop) (d : Nat) {e0 : Fe} {H : Heap} (h0 : I d e0 H) (hr : ∀ (d : Nat) (e : Fe) (H : Heap), I d e H → s84_0 S e H
  (sq (fun e' H' => ∃ d', d' < d ∧ I d' e' H') Q)) : WL S b84_0 e0 H Q := WL_inv I d h0 fun d e H hi => (h84_0 S e H _).mpr (hr d e H hi)
theorem u84_0 (S : Sys) {Q : Kx} {e : Fe} {H : Heap} (h : s84_0 S e H (sq (fun e' H' => WL S b84_0 e' H' Q) Q)) : WL S b84_0 e H Q := WL_once ((h84_0 S e H _).mpr h)
def s84 (S : Sys) (a0 a1 : Value) (H : Heap) (R : Kv) : Prop := jn (sq (fun e2 H => R (.bool false) H) (fn [(.t 4)] R)) fun Q1 => jn (blk 0 Q1) fun Q3 => WL S b84_0 (upd
  (upd (Env.get [a0, a1]) 4 (.bool false)) 5 (.int .i64 0)) H Q3
theorem h84 (S : Sys) (a0 a1 : Value) (H : Heap) (R : Kv) : wpC S k84.body (Env.get [a0, a1]) H (fn [(.t 4)] R) = s84 S a0 a1 H R := by kernel_rfl
theorem w84 {S : Sys} (hR : S.R 84 = none) (hF : S.F 84 = some k84) (a0 a1 : Value) {H : Heap} {R : Kv} (h : s84 S a0 a1 H R) : Wf S 84 [a0, a1] H R := Wf_sh hR hF ((h84
  S a0 a1 H R).mpr h)
def b85_0 : KCode := (.seq (.seq (.reg [(.op (some 6) none (.mv (.t 5))), (.op (some 7) none (.mv (.t 0))), (.op (some 8) none (.lenL (.t 7))), (.op (some 9) none (.bin
  .lss (.t 6) (.t 8)))]) (.cond (.t 9) .skip (.exit 0))) (.seq (.block 1 (.seq (.reg [(.op (some 12) none (.mv (.t 0))), (.op (some 13) none (.mv (.t 5))), (.op (some
  14) none (.iad 1 (.t 12) (.t 13))), (.op (some 15) none (.ld (.t 14))), (.op (some 16) none (.mv (.t 1))), (.op (some 17) none (.call 84 [(.t 15), (.t 16)]))]) (.cond
  (.t 17) (.seq (.reg [(.op (some 4) none (.mv (.c (.bool true))))]) .ret) .skip))) (.reg [(.op (some 10) none (.mv (.t 5))), (.op (some 11) none (.bin .add (.t 10) (.c
  (.int .i64 1)))), (.op (some 5) none (.mv (.t 11)))])))
def s85_0 (S : Sys) (e : Fe) (H : Heap) (Q : Kx) : Prop := run S (.lenL (.c (e 0))) [] H fun t8_4 H => run S (.bin .lss (.c (e 5)) (.c t8_4)) [] H fun t9_5 H => jn (sq
  (fun e7 H => jn (sq (fun e9 H => run S (.bin .add (.c (e9 5)) (.c (.int .i64 1))) [] H fun t11_10 H => Q .normal (upd (upd (upd e9 10 (e9 5)) 11 t11_10) 5 t11_10) H)
  Q) fun Q8 => run S (.iad 1 (.c (e7 0)) (.c (e7 5))) [] H fun t14_11 H => run S (.ld (.c t14_11)) [] H fun t15_12 H => run S (.call 84 [(.c t15_12), (.c (e7 1))]) [] H
  fun t17_13 H => jn (blk 1 Q8) fun Q14 => cnd t17_13 (fun Q15 => Q15 .ret (upd (upd (upd (upd (upd (upd (upd e7 12 (e7 0)) 13 (e7 5)) 14 t14_11) 15 t15_12) 16 (e7 1))
  17 t17_13) 4 (.bool true)) H) (fun Q16 => Q16 .normal (upd (upd (upd (upd (upd (upd e7 12 (e7 0)) 13 (e7 5)) 14 t14_11) 15 t15_12) 16 (e7 1)) 17 t17_13) H) Q14) Q) fun
  Q6 => cnd t9_5 (fun Q17 => Q17 .normal (upd (upd (upd (upd e 6 (e 5)) 7 (e 0)) 8 t8_4) 9 t9_5) H) (fun Q18 => Q18 (.exit 0) (upd (upd (upd (upd e 6 (e 5)) 7 (e 0)) 8
  t8_4) 9 t9_5) H) Q6
theorem h85_0 (S : Sys) (e : Fe) (H : Heap) (Q : Kx) : wpC S b85_0 e H Q = s85_0 S e H Q := by kernel_rfl
theorem l85_0 (S : Sys) {Q : Kx} (I : Nat → Fe → Heap → Prop) (d : Nat) {e0 : Fe} {H : Heap} (h0 : I d e0 H) (hr : ∀ (d : Nat) (e : Fe) (H : Heap), I d e H → s85_0 S e H
  (sq (fun e' H' => ∃ d', d' < d ∧ I d' e' H') Q)) : WL S b85_0 e0 H Q := WL_inv I d h0 fun d e H hi => (h85_0 S e H _).mpr (hr d e H hi)
theorem u85_0 (S : Sys) {Q : Kx} {e : Fe} {H : Heap} (h : s85_0 S e H (sq (fun e' H' => WL S b85_0 e' H' Q) Q)) : WL S b85_0 e H Q := WL_once ((h85_0 S e H _).mpr h)
def s85 (S : Sys) (a0 a1 : Value) (H : Heap) (R : Kv) : Prop := jn (sq (fun e2 H => R (.bool false) H) (fn [(.t 4)] R)) fun Q1 => jn (blk 0 Q1) fun Q3 => WL S b85_0 (upd
  (upd (Env.get [a0, a1]) 4 (.bool false)) 5 (.int .i64 0)) H Q3
theorem h85 (S : Sys) (a0 a1 : Value) (H : Heap) (R : Kv) : wpC S k85.body (Env.get [a0, a1]) H (fn [(.t 4)] R) = s85 S a0 a1 H R := by kernel_rfl
theorem w85 {S : Sys} (hR : S.R 85 = none) (hF : S.F 85 = some k85) (a0 a1 : Value) {H : Heap} {R : Kv} (h : s85 S a0 a1 H R) : Wf S 85 [a0, a1] H R := Wf_sh hR hF ((h85
  S a0 a1 H R).mpr h)
def b86_0 : KCode := (.seq (.seq (.reg [(.op (some 7) none (.mv (.t 6))), (.op (some 8) none (.mv (.t 0))), (.op (some 9) none (.lenL (.t 8))), (.op (some 10) none (.bin
  .lss (.t 7) (.t 9)))]) (.cond (.t 10) .skip (.exit 0))) (.seq (.block 1 (.seq (.reg [(.op (some 13) none (.mv (.t 0))), (.op (some 14) none (.mv (.t 6))), (.op (some
  15) none (.iad 1 (.t 13) (.t 14))), (.op (some 16) none (.ld (.t 15))), (.op (some 17) none (.mv (.t 1))), (.op (some 18) none (.call 84 [(.t 16), (.t 17)]))]) (.cond
  (.t 18) (.reg [(.op (some 19) none (.mv (.t 5))), (.op (some 20) none (.bin .add (.t 19) (.c (.int .i64 1)))), (.op (some 5) none (.mv (.t 20)))]) .skip))) (.reg [(.op
  (some 11) none (.mv (.t 6))), (.op (some 12) none (.bin .add (.t 11) (.c (.int .i64 1)))), (.op (some 6) none (.mv (.t 12)))])))
def s86_0 (S : Sys) (e : Fe) (H : Heap) (Q : Kx) : Prop := run S (.lenL (.c (e 0))) [] H fun t9_10 H => run S (.bin .lss (.c (e 6)) (.c t9_10)) [] H fun t10_11 H => jn
  (sq (fun e13 H => jn (sq (fun e15 H => run S (.bin .add (.c (e15 6)) (.c (.int .i64 1))) [] H fun t12_16 H => Q .normal (upd (upd (upd e15 11 (e15 6)) 12 t12_16) 6
  t12_16) H) Q) fun Q14 => run S (.iad 1 (.c (e13 0)) (.c (e13 6))) [] H fun t15_17 H => run S (.ld (.c t15_17)) [] H fun t16_18 H => run S (.call 84 [(.c t16_18), (.c
  (e13 1))]) [] H fun t18_19 H => jn (blk 1 Q14) fun Q20 => cnd t18_19 (fun Q21 => run S (.bin .add (.c (e13 5)) (.c (.int .i64 1))) [] H fun t20_23 H => Q21 .normal
  (upd (upd (upd (upd (upd (upd (upd (upd (upd e13 13 (e13 0)) 14 (e13 6)) 15 t15_17) 16 t16_18) 17 (e13 1)) 18 t18_19) 19 (e13 5)) 20 t20_23) 5 t20_23) H) (fun Q22 =>
  Q22 .normal (upd (upd (upd (upd (upd (upd e13 13 (e13 0)) 14 (e13 6)) 15 t15_17) 16 t16_18) 17 (e13 1)) 18 t18_19) H) Q20) Q) fun Q12 => cnd t10_11 (fun Q24 => Q24
  .normal (upd (upd (upd (upd e 7 (e 6)) 8 (e 0)) 9 t9_10) 10 t10_11) H) (fun Q25 => Q25 (.exit 0) (upd (upd (upd (upd e 7 (e 6)) 8 (e 0)) 9 t9_10) 10 t10_11) H) Q12
theorem h86_0 (S : Sys) (e : Fe) (H : Heap) (Q : Kx) : wpC S b86_0 e H Q = s86_0 S e H Q := by kernel_rfl
theorem l86_0 (S : Sys) {Q : Kx} (I : Nat → Fe → Heap → Prop) (d : Nat) {e0 : Fe} {H : Heap} (h0 : I d e0 H) (hr : ∀ (d : Nat) (e : Fe) (H : Heap), I d e H → s86_0 S e H
  (sq (fun e' H' => ∃ d', d' < d ∧ I d' e' H') Q)) : WL S b86_0 e0 H Q := WL_inv I d h0 fun d e H hi => (h86_0 S e H _).mpr (hr d e H hi)
theorem u86_0 (S : Sys) {Q : Kx} {e : Fe} {H : Heap} (h : s86_0 S e H (sq (fun e' H' => WL S b86_0 e' H' Q) Q)) : WL S b86_0 e H Q := WL_once ((h86_0 S e H _).mpr h)
def s86 (S : Sys) (a0 a1 : Value) (H : Heap) (R : Kv) : Prop := jn (sq (fun e2 H => run S (.bin .eql (.c (e2 5)) (.c (.int .i64 0))) [] H fun t22_3 H => jn (sq (fun e5 H
  => run S (.bin .sub (.c (e5 5)) (.c (.int .i64 1))) [] H fun t24_6 H => R t24_6 H) (fn [(.t 4)] R)) fun Q4 => cnd t22_3 (fun Q7 => Q7 .ret (upd (upd (upd e2 21 (e2 5))
  22 t22_3) 4 (.int .i64 0)) H) (fun Q8 => Q8 .normal (upd (upd e2 21 (e2 5)) 22 t22_3) H) Q4) (fn [(.t 4)] R)) fun Q1 => jn (blk 0 Q1) fun Q9 => WL S b86_0 (upd (upd
  (upd (Env.get [a0, a1]) 4 (.int .i64 0)) 5 (.int .i64 0)) 6 (.int .i64 0)) H Q9
theorem h86 (S : Sys) (a0 a1 : Value) (H : Heap) (R : Kv) : wpC S k86.body (Env.get [a0, a1]) H (fn [(.t 4)] R) = s86 S a0 a1 H R := by kernel_rfl
theorem w86 {S : Sys} (hR : S.R 86 = none) (hF : S.F 86 = some k86) (a0 a1 : Value) {H : Heap} {R : Kv} (h : s86 S a0 a1 H R) : Wf S 86 [a0, a1] H R := Wf_sh hR hF ((h86
  S a0 a1 H R).mpr h)
def b110_0 : KCode := (.seq (.seq (.reg [(.op (some 8) none (.mv (.t 5))), (.op (some 9) none (.bin .add (.t 8) (.c (.int .i64 6)))), (.op (some 10) none (.mv (.t 0))),
  (.op (some 11) none (.lenS (.t 10))), (.op (some 12) none (.bin .leq (.t 9) (.t 11)))]) (.cond (.t 12) .skip (.exit 0))) (.seq (.block 1 (.seq (.reg [(.op (some 15)
  none (.mv (.t 0))), (.op (some 16) none (.mv (.t 5))), (.op (some 17) none (.mv (.t 5))), (.op (some 18) none (.bin .add (.t 17) (.c (.int .i64 6)))), (.op (some 19)
  none (.slS (.t 15) (some (.t 16)) (some (.t 18)))), (.op (some 6) none (.mv (.t 19)))]) (.seq (.reg [(.op (some 20) none (.mv (.t 4))), (.op (some 21) none (.mv (.t
  6))), (.op (some 22) none (.lkp (.s .str) (.bool false) false (.t 20) (.t 21))), (.op (some 23) none (.un .not (.t 22)))]) (.cond (.t 23) (.seq (.reg [(.op (some 24)
  none (.mv (.t 4))), (.op (some 25) none (.mv (.t 6))), (.op none none (.mup (.s .str) (.t 24) (.t 25) (.c (.bool true))))]) (.reg [(.op (some 26) none (.mv (.t 3))),
  (.op (some 27) none (.mv (.t 6))), (.op (some 28) none (.bsl 9 1 [(.string (bs []))] [(0, (1, (.t 27)))])), (.op (some 29) none (.app 9 1 16 (.t 26) (.t 28))), (.op
  (some 3) none (.mv (.t 29)))])) .skip)))) (.reg [(.op (some 13) none (.mv (.t 5))), (.op (some 14) none (.bin .add (.t 13) (.c (.int .i64 1)))), (.op (some 5) none
  (.mv (.t 14)))])))
def s110_0 (S : Sys) (e : Fe) (H : Heap) (Q : Kx) : Prop := run S (.bin .add (.c (e 5)) (.c (.int .i64 6))) [] H fun t9_5 H => run S (.lenS (.c (e 0))) [] H fun t11_6 H
  => run S (.bin .leq (.c t9_5) (.c t11_6)) [] H fun t12_7 H => jn (sq (fun e9 H => jn (sq (fun e11 H => run S (.bin .add (.c (e11 5)) (.c (.int .i64 1))) [] H fun
  t14_12 H => Q .normal (upd (upd (upd e11 13 (e11 5)) 14 t14_12) 5 t14_12) H) Q) fun Q10 => run S (.bin .add (.c (e9 5)) (.c (.int .i64 6))) [] H fun t18_13 H => run S
  (.slS (.c (e9 0)) (some (.c (e9 5))) (some (.c t18_13))) [] H fun t19_14 H => run S (.lkp (.s .str) (.bool false) false (.c (e9 4)) (.c t19_14)) [] H fun t22_15 H =>
  run S (.un .not (.c t22_15)) [] H fun t23_16 H => jn (blk 1 Q10) fun Q17 => cnd t23_16 (fun Q18 => run S (.mup (.s .str) (.c (e9 4)) (.c t19_14) (.c (.bool true))) []
  H fun _ H => run S (.bsl 9 1 [(.string (bs []))] [(0, (1, (.c t19_14)))]) [] H fun t28_20 H => run S (.app 9 1 16 (.c (e9 3)) (.c t28_20)) [] H fun t29_21 H => Q18
  .normal (upd (upd (upd (upd (upd (upd (upd (upd (upd (upd (upd (upd (upd (upd (upd (upd (upd e9 15 (e9 0)) 16 (e9 5)) 17 (e9 5)) 18 t18_13) 19 t19_14) 6 t19_14) 20 (e9
  4)) 21 t19_14) 22 t22_15) 23 t23_16) 24 (e9 4)) 25 t19_14) 26 (e9 3)) 27 t19_14) 28 t28_20) 29 t29_21) 3 t29_21) H) (fun Q19 => Q19 .normal (upd (upd (upd (upd (upd
  (upd (upd (upd (upd (upd e9 15 (e9 0)) 16 (e9 5)) 17 (e9 5)) 18 t18_13) 19 t19_14) 6 t19_14) 20 (e9 4)) 21 t19_14) 22 t22_15) 23 t23_16) H) Q17) Q) fun Q8 => cnd t12_7
  (fun Q22 => Q22 .normal (upd (upd (upd (upd (upd e 8 (e 5)) 9 t9_5) 10 (e 0)) 11 t11_6) 12 t12_7) H) (fun Q23 => Q23 (.exit 0) (upd (upd (upd (upd (upd e 8 (e 5)) 9
  t9_5) 10 (e 0)) 11 t11_6) 12 t12_7) H) Q8
theorem h110_0 (S : Sys) (e : Fe) (H : Heap) (Q : Kx) : wpC S b110_0 e H Q = s110_0 S e H Q := by kernel_rfl
theorem l110_0 (S : Sys) {Q : Kx} (I : Nat → Fe → Heap → Prop) (d : Nat) {e0 : Fe} {H : Heap} (h0 : I d e0 H) (hr : ∀ (d : Nat) (e : Fe) (H : Heap), I d e H → s110_0 S e
  H (sq (fun e' H' => ∃ d', d' < d ∧ I d' e' H') Q)) : WL S b110_0 e0 H Q := WL_inv I d h0 fun d e H hi => (h110_0 S e H _).mpr (hr d e H hi)
theorem u110_0 (S : Sys) {Q : Kx} {e : Fe} {H : Heap} (h : s110_0 S e H (sq (fun e' H' => WL S b110_0 e' H' Q) Q)) : WL S b110_0 e H Q := WL_once ((h110_0 S e H _).mpr h)
def s110 (S : Sys) (a0 : Value) (H : Heap) (R : Kv) : Prop := run S .mkm [] H fun t7_1 H => jn (sq (fun e3 H => R (e3 3) H) (fn [(.t 2)] R)) fun Q2 => jn (blk 0 Q2) fun
  Q4 => WL S b110_0 (upd (upd (upd (upd (upd (Env.get [a0]) 2 (.slice none 0 0)) 3 (.slice none 0 0)) 7 t7_1) 4 t7_1) 5 (.int .i64 0)) H Q4
theorem h110 (S : Sys) (a0 : Value) (H : Heap) (R : Kv) : wpC S k110.body (Env.get [a0]) H (fn [(.t 2)] R) = s110 S a0 H R := by kernel_rfl
theorem w110 {S : Sys} (hR : S.R 110 = none) (hF : S.F 110 = some k110) (a0 : Value) {H : Heap} {R : Kv} (h : s110 S a0 H R) : Wf S 110 [a0] H R := Wf_sh hR hF ((h110 S
  a0 H R).mpr h)
def s112 (S : Sys) (a0 : Value) (H : Heap) (R : Kv) : Prop := run S (.lenL (.c a0)) [] H fun t4_1 H => R t4_1 H
theorem h112 (S : Sys) (a0 : Value) (H : Heap) (R : Kv) : wpC S k112.body (Env.get [a0]) H (fn [(.t 2)] R) = s112 S a0 H R := by kernel_rfl
theorem w112 {S : Sys} (hR : S.R 112 = none) (hF : S.F 112 = some k112) (a0 : Value) {H : Heap} {R : Kv} (h : s112 S a0 H R) : Wf S 112 [a0] H R := Wf_sh hR hF ((h112 S
  a0 H R).mpr h)
def s163 (S : Sys) (a0 a1 a2 : Value) (H : Heap) (R : Kv) : Prop := run S (.iad 3 (.c a0) (.c a2)) [] H fun t9_1 H => run S (.fad 1 (.c t9_1)) [] H fun t10_2 H => run S
  (.ld (.c t10_2)) [] H fun t11_3 H => run S (.iad 3 (.c a0) (.c a1)) [] H fun t14_4 H => run S (.fad 1 (.c t14_4)) [] H fun t15_5 H => run S (.ld (.c t15_5)) [] H fun
  t16_6 H => run S (.iad 3 (.c a0) (.c a1)) [] H fun t20_7 H => run S (.fad 2 (.c t20_7)) [] H fun t21_8 H => run S (.ld (.c t21_8)) [] H fun t22_9 H => run S (.iad 3
  (.c a0) (.c a2)) [] H fun t25_10 H => run S (.fad 2 (.c t25_10)) [] H fun t26_11 H => run S (.ld (.c t26_11)) [] H fun t27_12 H => run S (.call 124 [(.c t11_3), (.c
  t16_6)]) [] H fun t17_13 H => ck (kop (.ld (.c t21_8)) [] H) t22_9 (ck (kop (.ld (.c t26_11)) [] H) t27_12 (run S (.call 124 [(.c t22_9), (.c t27_12)]) [] H fun t28_14
  H => run S (.bsl 3 2 [(.int .i64 0), (.int .i64 0)] [(0, (1, (.c t17_13))), (1, (1, (.c t28_14)))]) [] H fun t29_15 H => run S (.call 167 [(.c t29_15)]) [] H fun
  t30_16 H => run S (.bin .lss (.c t30_16) (.c (.int .i64 0))) [] H fun t31_17 H => R t31_17 H))
theorem h163 (S : Sys) (a0 a1 a2 : Value) (H : Heap) (R : Kv) : wpC S k163.body (Env.get [a0, a1, a2]) H (fn [(.t 6)] R) = s163 S a0 a1 a2 H R := by kernel_rfl
theorem w163 {S : Sys} (hR : S.R 163 = none) (hF : S.F 163 = some k163) (a0 a1 a2 : Value) {H : Heap} {R : Kv} (h : s163 S a0 a1 a2 H R) : Wf S 163 [a0, a1, a2] H R :=
  Wf_sh hR hF ((h163 S a0 a1 a2 H R).mpr h)
def s164 (S : Sys) (a0 : Value) (H : Heap) (R : Kv) : Prop := run S (.nck (.c a0)) [] H fun t6_1 H => run S (.ld (.c t6_1)) [] H fun t7_2 H => run S (.lenL (.c t7_2)) []
  H fun t8_3 H => run S (.bin .sub (.c t8_3) (.c (.int .i64 1))) [] H fun t9_4 H => run S (.nck (.c a0)) [] H fun t11_5 H => run S (.ld (.c t11_5)) [] H fun t12_6 H =>
  run S (.iad 3 (.c t12_6) (.c t9_4)) [] H fun t14_7 H => run S (.ldn 3 (.c t14_7)) [] H fun t15_8 H => run S (.alloc 112 [(.string (bs [])), (.int .i64 0), (.int .i64
  0)]) [] H fun t4_9 H => run S (.stn 3 (.c t4_9) (.c t15_8)) [] H fun _ H => run S (.nck (.c a0)) [] H fun t18_10 H => run S (.ld (.c t18_10)) [] H fun t19_11 H => run
  S (.slc 112 3 (.c t19_11) none (some (.c t9_4))) [] H fun t21_12 H => run S (.nck (.c a0)) [] H fun t22_13 H => run S (.st (.c t22_13) (.c t21_12)) [] H fun _ H => run
  S (.ldn 3 (.c t4_9)) [] H fun t23_14 H => run S (.mki 112 (.c t23_14)) [] H fun t24_15 H => R t24_15 H
theorem h164 (S : Sys) (a0 : Value) (H : Heap) (R : Kv) : wpC S k164.body (Env.get [a0]) H (fn [(.t 2)] R) = s164 S a0 H R := by kernel_rfl
theorem w164 {S : Sys} (hR : S.R 164 = none) (hF : S.F 164 = some k164) (a0 : Value) {H : Heap} {R : Kv} (h : s164 S a0 H R) : Wf S 164 [a0] H R := Wf_sh hR hF ((h164 S
  a0 H R).mpr h)
def s165 (S : Sys) (a0 a1 : Value) (H : Heap) (R : Kv) : Prop := run S (.tas 112 (.agg ([(.string (bs [])), (.int .i64 0), (.int .i64 0)]).toArray) true (.c a1)) [] H
  fun t8_1 H => run S (.xt (.c t8_1) 0) [] H fun t9_2 H => run S (.xt (.c t8_1) 1) [] H fun t10_3 H => run S (.alloc 112 [(.string (bs [])), (.int .i64 0), (.int .i64
  0)]) [] H fun t4_4 H => run S (.stn 3 (.c t4_4) (.c t9_2)) [] H fun _ H => cnd t10_3 (fun Q5 => run S (.nck (.c a0)) [] H fun t14_7 H => run S (.ld (.c t14_7)) [] H
  fun t15_8 H => run S (.ldn 3 (.c t4_4)) [] H fun t16_9 H => run S (.bsl 112 1 [(.string (bs [])), (.int .i64 0), (.int .i64 0)] [(0, (3, (.c t16_9)))]) [] H fun t17_10
  H => ck (kop (.ld (.c t14_7)) [] H) t15_8 (run S (.app 112 3 32 (.c t15_8) (.c t17_10)) [] H fun t18_11 H => run S (.nck (.c a0)) [] H fun t19_12 H => run S (.st (.c
  t19_12) (.c t18_11)) [] H fun _ H => Q5 .normal (upd (upd (upd (upd (upd (upd (upd (upd (upd (upd (upd (upd (upd (upd (upd (upd (Env.get [a0, a1]) 7 a1) 8 t8_1) 6
  t8_1) 9 t9_2) 10 t10_3) 4 t4_4) 5 t10_3) 11 t10_3) 12 a0) 13 a0) 14 t14_7) 15 t15_8) 16 t16_9) 17 t17_10) 18 t18_11) 19 t19_12) H)) (fun Q6 => Q6 .normal (upd (upd
  (upd (upd (upd (upd (upd (upd (Env.get [a0, a1]) 7 a1) 8 t8_1) 6 t8_1) 9 t9_2) 10 t10_3) 4 t4_4) 5 t10_3) 11 t10_3) H) (fn [] R)
theorem h165 (S : Sys) (a0 a1 : Value) (H : Heap) (R : Kv) : wpC S k165.body (Env.get [a0, a1]) H (fn [] R) = s165 S a0 a1 H R := by kernel_rfl
theorem w165 {S : Sys} (hR : S.R 165 = none) (hF : S.F 165 = some k165) (a0 a1 : Value) {H : Heap} {R : Kv} (h : s165 S a0 a1 H R) : Wf S 165 [a0, a1] H R := Wf_sh hR hF
  ((h165 S a0 a1 H R).mpr h)
def s166 (S : Sys) (a0 a1 a2 : Value) (H : Heap) (R : Kv) : Prop := run S (.iad 3 (.c a0) (.c a2)) [] H fun t12_1 H => run S (.ldn 3 (.c t12_1)) [] H fun t13_2 H => run
  S (.iad 3 (.c a0) (.c a1)) [] H fun t16_3 H => run S (.ldn 3 (.c t16_3)) [] H fun t17_4 H => run S (.iad 3 (.c a0) (.c a1)) [] H fun t18_5 H => run S (.stn 3 (.c
  t18_5) (.c t13_2)) [] H fun _ H => run S (.iad 3 (.c a0) (.c a2)) [] H fun t19_6 H => run S (.stn 3 (.c t19_6) (.c t17_4)) [] H fun _ H => R (tup []) H
theorem h166 (S : Sys) (a0 a1 a2 : Value) (H : Heap) (R : Kv) : wpC S k166.body (Env.get [a0, a1, a2]) H (fn [] R) = s166 S a0 a1 a2 H R := by kernel_rfl
theorem w166 {S : Sys} (hR : S.R 166 = none) (hF : S.F 166 = some k166) (a0 a1 a2 : Value) {H : Heap} {R : Kv} (h : s166 S a0 a1 a2 H R) : Wf S 166 [a0, a1, a2] H R :=
  Wf_sh hR hF ((h166 S a0 a1 a2 H R).mpr h)
end Go.Proofs.Ytlboioplemlneaa.K
