/- The functions as nested words with named values, each held against its code by the kernel. Printed by a program of this work (sh.py). -/
import Derived.Test.YtpcpelbbeofenaaKHufCode
set_option maxRecDepth 100000
set_option linter.unusedVariables false
namespace Go.Proofs.Ytpcpelbbeofenaa.K
open Go Go.Proofs
def s13 (S : Sys) (a0 : Value) (H : Heap) (R : Kv) : Prop := run S (.call 66 []) [] H fun t6_1 H => run S (.un .not (.c t6_1)) [] H fun t7_2 H => jn (sq (fun e4 H => run
  S (.lenL (.c (e4 0))) [] H fun t9_5 H => run S (.bin .gtr (.c t9_5) (.c (.int .i64 300))) [] H fun t10_6 H => jn (sq (fun e8 H => run S (.call 32 [(.c (e8 0))]) [] H
  fun t12_9 H => run S (.call 67 [(.c (e8 0))]) [] H fun t15_10 H => run S (.xt (.c t15_10) 0) [] H fun t16_11 H => run S (.xt (.c t15_10) 1) [] H fun t17_12 H => run S
  (.call 68 [(.c (e8 0))]) [] H fun t19_13 H => run S (.eqv (.s .bool) true (.c t19_13) (.c t12_9)) [] H fun t21_14 H => gd t21_14 false (run S (.mv (.c t17_12)) [] H) H
  fun t23_15 H => gd t21_14 false (run S (.mv (.c t12_9)) [] H) H fun t24_16 H => gd t21_14 false (run S (.eqv (.s .bool) true (.c t23_15) (.c t24_16)) [] H) H fun
  t25_17 H => run S (.pick (.c t21_14) (.c (.bool true)) (.c t25_17)) [] H fun t26_18 H => jn (sq (fun e20 H => run S (.un .not (.c (e20 3))) [] H fun t28_21 H => jn (sq
  (fun e23 H => run S (.call 70 [(.c (e23 0))]) [] H fun t34_24 H => run S (.call 69 [(.c (e23 4)), (.c t34_24)]) [] H fun t35_25 H => R t35_25 H) (fn [(.t 2)] R)) fun
  Q22 => cnd t28_21 (fun Q26 => run S (.lenL (.c (e20 4))) [] H fun t30_28 H => run S (.bin .eql (.c t30_28) (.c (.int .i64 0))) [] H fun t31_29 H => Q26 .ret (upd (upd
  (upd (upd (upd (upd e20 27 (e20 3)) 28 t28_21) 29 (e20 4)) 30 t30_28) 31 t31_29) 2 t31_29) H) (fun Q27 => Q27 .normal (upd (upd e20 27 (e20 3)) 28 t28_21) H) Q22) (fn
  [(.t 2)] R)) fun Q19 => cnd t26_18 (fun Q30 => Q30 .ret (upd (upd (upd (upd (upd (upd (upd (upd (upd (upd (upd (upd (upd (upd (upd (upd (upd (upd (upd (upd e8 11 (e8
  0)) 12 t12_9) 3 t12_9) 14 (e8 0)) 15 t15_10) 13 t15_10) 16 t16_11) 17 t17_12) 4 t16_11) 5 t17_12) 18 (e8 0)) 19 t19_13) 20 t12_9) 21 t21_14) 22 t21_14) 23 t23_15) 24
  t24_16) 25 t25_17) 26 t26_18) 2 (.bool false)) H) (fun Q31 => Q31 .normal (upd (upd (upd (upd (upd (upd (upd (upd (upd (upd (upd (upd (upd (upd (upd (upd (upd (upd
  (upd e8 11 (e8 0)) 12 t12_9) 3 t12_9) 14 (e8 0)) 15 t15_10) 13 t15_10) 16 t16_11) 17 t17_12) 4 t16_11) 5 t17_12) 18 (e8 0)) 19 t19_13) 20 t12_9) 21 t21_14) 22 t21_14)
  23 t23_15) 24 t24_16) 25 t25_17) 26 t26_18) H) Q19) (fn [(.t 2)] R)) fun Q7 => cnd t10_6 (fun Q32 => Q32 .ret (upd (upd (upd (upd e4 8 (e4 0)) 9 t9_5) 10 t10_6) 2
  (.bool true)) H) (fun Q33 => Q33 .normal (upd (upd (upd e4 8 (e4 0)) 9 t9_5) 10 t10_6) H) Q7) (fn [(.t 2)] R)) fun Q3 => cnd t7_2 (fun Q34 => Q34 .ret (upd (upd (upd
  (upd (Env.get [a0]) 2 (.bool false)) 6 t6_1) 7 t7_2) 2 (.bool false)) H) (fun Q35 => Q35 .normal (upd (upd (upd (Env.get [a0]) 2 (.bool false)) 6 t6_1) 7 t7_2) H) Q3
theorem h13 (S : Sys) (a0 : Value) (H : Heap) (R : Kv) : wpC S k13.body (Env.get [a0]) H (fn [(.t 2)] R) = s13 S a0 H R := by kernel_rfl
theorem w13 {S : Sys} (hR : S.R 13 = none) (hF : S.F 13 = some k13) (a0 : Value) {H : Heap} {R : Kv} (h : s13 S a0 H R) : Wf S 13 [a0] H R := Wf_sh hR hF ((h13 S a0 H
  R).mpr h)
def b14_1 : KCode := (.seq (.reg [(.op (some 28) none (.bin .lss (.t 27) (.t 26)))]) (.seq (.cond (.t 28) .skip (.exit 2)) (.seq (.block 3 (.seq (.reg [(.op (some 29)
  none (.mv (.t 27))), (.op (some 30) none (.iad 1 (.t 25) (.t 27))), (.op (some 31) none (.ld (.t 30))), (.op (some 7) none (.mv (.t 29))), (.op (some 8) none (.mv (.t
  31)))]) (.seq (.seq (.reg [(.op (some 32) none (.mv (.t 6))), (.op (some 33) none (.bin .eql (.t 32) (.c (.int .i64 0)))), (.op (some 34) none (.mv (.t 33))), (.op
  (some 35) (some (34, false)) (.mv (.t 8))), (.op (some 36) (some (34, false)) (.bin .eql (.t 35) (.c (.int .i64 0)))), (.op (some 37) none (.pick (.t 34) (.c (.bool
  true)) (.t 36))), (.op (some 38) none (.mv (.t 37))), (.op (some 39) (some (38, false)) (.mv (.t 6))), (.op (some 40) (some (38, false)) (.mv (.t 8))), (.op (some 41)
  (some (38, false)) (.bin .gtr (.t 39) (.t 40))), (.op (some 42) none (.pick (.t 38) (.c (.bool true)) (.t 41))), (.op (some 43) none (.mv (.t 42))), (.op (some 44)
  (some (43, false)) (.mv (.t 5))), (.op (some 45) (some (43, false)) (.mv (.t 7))), (.op (some 46) (some (43, false)) (.bin .eql (.t 44) (.t 45))), (.op (some 47) none
  (.pick (.t 43) (.c (.bool true)) (.t 46)))]) (.cond (.t 47) (.exit 3) .skip)) (.seq (.reg [(.op (some 48) none (.mv (.t 3))), (.op (some 49) none (.mv (.t 7))), (.op
  (some 50) none (.iad 1 (.t 48) (.t 49))), (.op (some 51) none (.ld (.t 50))), (.op (some 52) none (.mv (.t 8))), (.op (some 53) none (.mv (.t 6))), (.op (some 54) none
  (.bin .sub (.t 52) (.t 53))), (.op (some 55) none (.bin .shr (.t 51) (.t 54))), (.op (some 56) none (.mv (.t 3))), (.op (some 57) none (.mv (.t 5))), (.op (some 58)
  none (.iad 1 (.t 56) (.t 57))), (.op (some 59) none (.ld (.t 58))), (.op (some 60) none (.bin .eql (.t 55) (.t 59)))]) (.cond (.t 60) (.seq (.reg [(.op (some 2) none
  (.mv (.c (.bool false))))]) .ret) .skip))))) (.reg [(.op (some 61) none (.bin .add (.t 27) (.c (.int .i64 1)))), (.op (some 27) none (.mv (.t 61)))]))))
def s14_1 (S : Sys) (e : Fe) (H : Heap) (Q : Kx) : Prop := run S (.bin .lss (.c (e 27)) (.c (e 26))) [] H fun t28_52 H => jn (sq (fun e54 H => jn (sq (fun e56 H => run S
  (.bin .add (.c (e56 27)) (.c (.int .i64 1))) [] H fun t61_57 H => Q .normal (upd (upd e56 61 t61_57) 27 t61_57) H) Q) fun Q55 => run S (.iad 1 (.c (e54 25)) (.c (e54
  27))) [] H fun t30_58 H => run S (.ld (.c t30_58)) [] H fun t31_59 H => run S (.bin .eql (.c (e54 6)) (.c (.int .i64 0))) [] H fun t33_60 H => gd t33_60 false (run S
  (.mv (.c t31_59)) [] H) H fun t35_61 H => gd t33_60 false (run S (.bin .eql (.c t35_61) (.c (.int .i64 0))) [] H) H fun t36_62 H => run S (.pick (.c t33_60) (.c (.bool
  true)) (.c t36_62)) [] H fun t37_63 H => gd t37_63 false (run S (.mv (.c (e54 6))) [] H) H fun t39_64 H => gd t37_63 false (run S (.mv (.c t31_59)) [] H) H fun t40_65
  H => gd t37_63 false (run S (.bin .gtr (.c t39_64) (.c t40_65)) [] H) H fun t41_66 H => run S (.pick (.c t37_63) (.c (.bool true)) (.c t41_66)) [] H fun t42_67 H => gd
  t42_67 false (run S (.mv (.c (e54 5))) [] H) H fun t44_68 H => gd t42_67 false (run S (.mv (.c (e54 27))) [] H) H fun t45_69 H => gd t42_67 false (run S (.bin .eql (.c
  t44_68) (.c t45_69)) [] H) H fun t46_70 H => run S (.pick (.c t42_67) (.c (.bool true)) (.c t46_70)) [] H fun t47_71 H => jn (blk 3 Q55) fun Q72 => jn (sq (fun e74 H
  => run S (.iad 1 (.c (e74 3)) (.c (e74 7))) [] H fun t50_75 H => run S (.ld (.c t50_75)) [] H fun t51_76 H => run S (.bin .sub (.c (e74 8)) (.c (e74 6))) [] H fun
  t54_77 H => run S (.bin .shr (.c t51_76) (.c t54_77)) [] H fun t55_78 H => run S (.iad 1 (.c (e74 3)) (.c (e74 5))) [] H fun t58_79 H => run S (.ld (.c t58_79)) [] H
  fun t59_80 H => run S (.bin .eql (.c t55_78) (.c t59_80)) [] H fun t60_81 H => cnd t60_81 (fun Q82 => Q82 .ret (upd (upd (upd (upd (upd (upd (upd (upd (upd (upd (upd
  (upd (upd (upd e74 48 (e74 3)) 49 (e74 7)) 50 t50_75) 51 t51_76) 52 (e74 8)) 53 (e74 6)) 54 t54_77) 55 t55_78) 56 (e74 3)) 57 (e74 5)) 58 t58_79) 59 t59_80) 60 t60_81)
  2 (.bool false)) H) (fun Q83 => Q83 .normal (upd (upd (upd (upd (upd (upd (upd (upd (upd (upd (upd (upd (upd e74 48 (e74 3)) 49 (e74 7)) 50 t50_75) 51 t51_76) 52 (e74
  8)) 53 (e74 6)) 54 t54_77) 55 t55_78) 56 (e74 3)) 57 (e74 5)) 58 t58_79) 59 t59_80) 60 t60_81) H) Q72) Q72) fun Q73 => cnd t47_71 (fun Q84 => Q84 (.exit 3) (upd (upd
  (upd (upd (upd (upd (upd (upd (upd (upd (upd (upd (upd (upd (upd (upd (upd (upd (upd (upd (upd e54 29 (e54 27)) 30 t30_58) 31 t31_59) 7 (e54 27)) 8 t31_59) 32 (e54 6))
  33 t33_60) 34 t33_60) 35 t35_61) 36 t36_62) 37 t37_63) 38 t37_63) 39 t39_64) 40 t40_65) 41 t41_66) 42 t42_67) 43 t42_67) 44 t44_68) 45 t45_69) 46 t46_70) 47 t47_71) H)
  (fun Q85 => Q85 .normal (upd (upd (upd (upd (upd (upd (upd (upd (upd (upd (upd (upd (upd (upd (upd (upd (upd (upd (upd (upd (upd e54 29 (e54 27)) 30 t30_58) 31 t31_59)
  7 (e54 27)) 8 t31_59) 32 (e54 6)) 33 t33_60) 34 t33_60) 35 t35_61) 36 t36_62) 37 t37_63) 38 t37_63) 39 t39_64) 40 t40_65) 41 t41_66) 42 t42_67) 43 t42_67) 44 t44_68)
  45 t45_69) 46 t46_70) 47 t47_71) H) Q73) Q) fun Q53 => cnd t28_52 (fun Q86 => Q86 .normal (upd e 28 t28_52) H) (fun Q87 => Q87 (.exit 2) (upd e 28 t28_52) H) Q53
theorem h14_1 (S : Sys) (e : Fe) (H : Heap) (Q : Kx) : wpC S b14_1 e H Q = s14_1 S e H Q := by kernel_rfl
theorem l14_1 (S : Sys) {Q : Kx} (I : Nat → Fe → Heap → Prop) (d : Nat) {e0 : Fe} {H : Heap} (h0 : I d e0 H) (hr : ∀ (d : Nat) (e : Fe) (H : Heap), I d e H → s14_1 S e H
  (sq (fun e' H' => ∃ d', d' < d ∧ I d' e' H') Q)) : WL S b14_1 e0 H Q := WL_inv I d h0 fun d e H hi => (h14_1 S e H _).mpr (hr d e H hi)
theorem u14_1 (S : Sys) {Q : Kx} {e : Fe} {H : Heap} (h : s14_1 S e H (sq (fun e' H' => WL S b14_1 e' H' Q) Q)) : WL S b14_1 e H Q := WL_once ((h14_1 S e H _).mpr h)
def b14_0 : KCode := (.seq (.reg [(.op (some 21) none (.bin .lss (.t 20) (.t 19)))]) (.seq (.cond (.t 21) .skip (.exit 0)) (.seq (.block 1 (.seq (.reg [(.op (some 22)
  none (.mv (.t 20))), (.op (some 23) none (.iad 1 (.t 18) (.t 20))), (.op (some 24) none (.ld (.t 23))), (.op (some 5) none (.mv (.t 22))), (.op (some 6) none (.mv (.t
  24)))]) (.seq (.seq (.reg [(.op (some 25) none (.mv (.t 0))), (.op (some 26) none (.lenL (.t 25))), (.op (some 27) none (.mv (.c (.int .i64 0))))]) (.block 2 (.loop
  (.seq (.reg [(.op (some 28) none (.bin .lss (.t 27) (.t 26)))]) (.seq (.cond (.t 28) .skip (.exit 2)) (.seq (.block 3 (.seq (.reg [(.op (some 29) none (.mv (.t 27))),
  (.op (some 30) none (.iad 1 (.t 25) (.t 27))), (.op (some 31) none (.ld (.t 30))), (.op (some 7) none (.mv (.t 29))), (.op (some 8) none (.mv (.t 31)))]) (.seq (.seq
  (.reg [(.op (some 32) none (.mv (.t 6))), (.op (some 33) none (.bin .eql (.t 32) (.c (.int .i64 0)))), (.op (some 34) none (.mv (.t 33))), (.op (some 35) (some (34,
  false)) (.mv (.t 8))), (.op (some 36) (some (34, false)) (.bin .eql (.t 35) (.c (.int .i64 0)))), (.op (some 37) none (.pick (.t 34) (.c (.bool true)) (.t 36))), (.op
  (some 38) none (.mv (.t 37))), (.op (some 39) (some (38, false)) (.mv (.t 6))), (.op (some 40) (some (38, false)) (.mv (.t 8))), (.op (some 41) (some (38, false))
  (.bin .gtr (.t 39) (.t 40))), (.op (some 42) none (.pick (.t 38) (.c (.bool true)) (.t 41))), (.op (some 43) none (.mv (.t 42))), (.op (some 44) (some (43, false))
  (.mv (.t 5))), (.op (some 45) (some (43, false)) (.mv (.t 7))), (.op (some 46) (some (43, false)) (.bin .eql (.t 44) (.t 45))), (.op (some 47) none (.pick (.t 43) (.c
  (.bool true)) (.t 46)))]) (.cond (.t 47) (.exit 3) .skip)) (.seq (.reg [(.op (some 48) none (.mv (.t 3))), (.op (some 49) none (.mv (.t 7))), (.op (some 50) none (.iad
  1 (.t 48) (.t 49))), (.op (some 51) none (.ld (.t 50))), (.op (some 52) none (.mv (.t 8))), (.op (some 53) none (.mv (.t 6))), (.op (some 54) none (.bin .sub (.t 52)
  (.t 53))), (.op (some 55) none (.bin .shr (.t 51) (.t 54))), (.op (some 56) none (.mv (.t 3))), (.op (some 57) none (.mv (.t 5))), (.op (some 58) none (.iad 1 (.t 56)
  (.t 57))), (.op (some 59) none (.ld (.t 58))), (.op (some 60) none (.bin .eql (.t 55) (.t 59)))]) (.cond (.t 60) (.seq (.reg [(.op (some 2) none (.mv (.c (.bool
  false))))]) .ret) .skip))))) (.reg [(.op (some 61) none (.bin .add (.t 27) (.c (.int .i64 1)))), (.op (some 27) none (.mv (.t 61)))]))))))) (.seq (.reg [(.op (some 62)
  none (.mv (.t 6))), (.op (some 63) none (.bin .gtr (.t 62) (.c (.int .i64 0)))), (.op (some 64) none (.mv (.t 63))), (.op (some 65) (some (64, true)) (.mv (.t 3))),
  (.op (some 66) (some (64, true)) (.mv (.t 5))), (.op (some 67) (some (64, true)) (.iad 1 (.t 65) (.t 66))), (.op (some 68) (some (64, true)) (.ld (.t 67))), (.op (some
  69) (some (64, true)) (.bin .lss (.t 68) (.c (.int .i64 0)))), (.op (some 70) (some (64, true)) (.mv (.t 69))), (.op (some 71) (some (70, false)) (.mv (.t 3))), (.op
  (some 72) (some (70, false)) (.mv (.t 5))), (.op (some 73) (some (70, false)) (.iad 1 (.t 71) (.t 72))), (.op (some 74) (some (70, false)) (.ld (.t 73))), (.op (some
  75) (some (70, false)) (.mv (.t 6))), (.op (some 76) (some (70, false)) (.bin .shl (.c (.int .i64 1)) (.t 75))), (.op (some 77) (some (70, false)) (.bin .geq (.t 74)
  (.t 76))), (.op (some 78) (some (64, true)) (.pick (.t 70) (.c (.bool true)) (.t 77))), (.op (some 79) none (.pick (.t 64) (.t 78) (.c (.bool false))))]) (.cond (.t
  79) (.seq (.reg [(.op (some 2) none (.mv (.c (.bool false))))]) .ret) .skip))))) (.reg [(.op (some 80) none (.bin .add (.t 20) (.c (.int .i64 1)))), (.op (some 20)
  none (.mv (.t 80)))]))))
def s14_0 (S : Sys) (e : Fe) (H : Heap) (Q : Kx) : Prop := run S (.bin .lss (.c (e 20)) (.c (e 19))) [] H fun t21_19 H => jn (sq (fun e21 H => jn (sq (fun e23 H => run S
  (.bin .add (.c (e23 20)) (.c (.int .i64 1))) [] H fun t80_24 H => Q .normal (upd (upd e23 80 t80_24) 20 t80_24) H) Q) fun Q22 => run S (.iad 1 (.c (e21 18)) (.c (e21
  20))) [] H fun t23_25 H => run S (.ld (.c t23_25)) [] H fun t24_26 H => run S (.lenL (.c (e21 0))) [] H fun t26_27 H => jn (blk 1 Q22) fun Q28 => jn (sq (fun e30 H =>
  run S (.bin .gtr (.c (e30 6)) (.c (.int .i64 0))) [] H fun t63_31 H => gd t63_31 true (run S (.mv (.c (e30 3))) [] H) H fun t65_32 H => gd t63_31 true (run S (.mv (.c
  (e30 5))) [] H) H fun t66_33 H => gd t63_31 true (run S (.iad 1 (.c t65_32) (.c t66_33)) [] H) H fun t67_34 H => gd t63_31 true (run S (.ld (.c t67_34)) [] H) H fun
  t68_35 H => gd t63_31 true (run S (.bin .lss (.c t68_35) (.c (.int .i64 0))) [] H) H fun t69_36 H => gd t63_31 true (run S (.mv (.c t69_36)) [] H) H fun t70_37 H => gd
  t70_37 false (run S (.mv (.c (e30 3))) [] H) H fun t71_38 H => gd t70_37 false (run S (.mv (.c (e30 5))) [] H) H fun t72_39 H => gd t70_37 false (run S (.iad 1 (.c
  t71_38) (.c t72_39)) [] H) H fun t73_40 H => gd t70_37 false (run S (.ld (.c t73_40)) [] H) H fun t74_41 H => gd t70_37 false (run S (.mv (.c (e30 6))) [] H) H fun
  t75_42 H => gd t70_37 false (run S (.bin .shl (.c (.int .i64 1)) (.c t75_42)) [] H) H fun t76_43 H => gd t70_37 false (run S (.bin .geq (.c t74_41) (.c t76_43)) [] H)
  H fun t77_44 H => gd t63_31 true (run S (.pick (.c t70_37) (.c (.bool true)) (.c t77_44)) [] H) H fun t78_45 H => run S (.pick (.c t63_31) (.c t78_45) (.c (.bool
  false))) [] H fun t79_46 H => cnd t79_46 (fun Q47 => Q47 .ret (upd (upd (upd (upd (upd (upd (upd (upd (upd (upd (upd (upd (upd (upd (upd (upd (upd (upd (upd e30 62
  (e30 6)) 63 t63_31) 64 t63_31) 65 t65_32) 66 t66_33) 67 t67_34) 68 t68_35) 69 t69_36) 70 t70_37) 71 t71_38) 72 t72_39) 73 t73_40) 74 t74_41) 75 t75_42) 76 t76_43) 77
  t77_44) 78 t78_45) 79 t79_46) 2 (.bool false)) H) (fun Q48 => Q48 .normal (upd (upd (upd (upd (upd (upd (upd (upd (upd (upd (upd (upd (upd (upd (upd (upd (upd (upd e30
  62 (e30 6)) 63 t63_31) 64 t63_31) 65 t65_32) 66 t66_33) 67 t67_34) 68 t68_35) 69 t69_36) 70 t70_37) 71 t71_38) 72 t72_39) 73 t73_40) 74 t74_41) 75 t75_42) 76 t76_43)
  77 t77_44) 78 t78_45) 79 t79_46) H) Q28) Q28) fun Q29 => jn (blk 2 Q29) fun Q49 => WL S b14_1 (upd (upd (upd (upd (upd (upd (upd (upd e21 22 (e21 20)) 23 t23_25) 24
  t24_26) 5 (e21 20)) 6 t24_26) 25 (e21 0)) 26 t26_27) 27 (.int .i64 0)) H Q49) Q) fun Q20 => cnd t21_19 (fun Q50 => Q50 .normal (upd e 21 t21_19) H) (fun Q51 => Q51
  (.exit 0) (upd e 21 t21_19) H) Q20
theorem h14_0 (S : Sys) (e : Fe) (H : Heap) (Q : Kx) : wpC S b14_0 e H Q = s14_0 S e H Q := by kernel_rfl
theorem l14_0 (S : Sys) {Q : Kx} (I : Nat → Fe → Heap → Prop) (d : Nat) {e0 : Fe} {H : Heap} (h0 : I d e0 H) (hr : ∀ (d : Nat) (e : Fe) (H : Heap), I d e H → s14_0 S e H
  (sq (fun e' H' => ∃ d', d' < d ∧ I d' e' H') Q)) : WL S b14_0 e0 H Q := WL_inv I d h0 fun d e H hi => (h14_0 S e H _).mpr (hr d e H hi)
theorem u14_0 (S : Sys) {Q : Kx} {e : Fe} {H : Heap} (h : s14_0 S e H (sq (fun e' H' => WL S b14_0 e' H' Q) Q)) : WL S b14_0 e H Q := WL_once ((h14_0 S e H _).mpr h)
def s14 (S : Sys) (a0 : Value) (H : Heap) (R : Kv) : Prop := run S (.call 66 []) [] H fun t9_1 H => run S (.un .not (.c t9_1)) [] H fun t10_2 H => jn (sq (fun e4 H =>
  run S (.call 67 [(.c (e4 0))]) [] H fun t13_5 H => run S (.xt (.c t13_5) 0) [] H fun t14_6 H => run S (.xt (.c t13_5) 1) [] H fun t15_7 H => run S (.un .not (.c
  t15_7)) [] H fun t17_8 H => jn (sq (fun e10 H => run S (.lenL (.c (e10 0))) [] H fun t19_11 H => jn (sq (fun e13 H => R (.bool true) H) (fn [(.t 2)] R)) fun Q12 => jn
  (blk 0 Q12) fun Q14 => WL S b14_0 (upd (upd (upd e10 18 (e10 0)) 19 t19_11) 20 (.int .i64 0)) H Q14) (fn [(.t 2)] R)) fun Q9 => cnd t17_8 (fun Q15 => Q15 .ret (upd
  (upd (upd (upd (upd (upd (upd (upd (upd (upd e4 12 (e4 0)) 13 t13_5) 11 t13_5) 14 t14_6) 15 t15_7) 3 t14_6) 4 t15_7) 16 t15_7) 17 t17_8) 2 (.bool true)) H) (fun Q16 =>
  Q16 .normal (upd (upd (upd (upd (upd (upd (upd (upd (upd e4 12 (e4 0)) 13 t13_5) 11 t13_5) 14 t14_6) 15 t15_7) 3 t14_6) 4 t15_7) 16 t15_7) 17 t17_8) H) Q9) (fn [(.t
  2)] R)) fun Q3 => cnd t10_2 (fun Q17 => Q17 .ret (upd (upd (upd (upd (Env.get [a0]) 2 (.bool false)) 9 t9_1) 10 t10_2) 2 (.bool false)) H) (fun Q18 => Q18 .normal (upd
  (upd (upd (Env.get [a0]) 2 (.bool false)) 9 t9_1) 10 t10_2) H) Q3
theorem h14 (S : Sys) (a0 : Value) (H : Heap) (R : Kv) : wpC S k14.body (Env.get [a0]) H (fn [(.t 2)] R) = s14 S a0 H R := by kernel_rfl
theorem w14 {S : Sys} (hR : S.R 14 = none) (hF : S.F 14 = some k14) (a0 : Value) {H : Heap} {R : Kv} (h : s14 S a0 H R) : Wf S 14 [a0] H R := Wf_sh hR hF ((h14 S a0 H
  R).mpr h)
def s15 (S : Sys) (a0 a1 : Value) (H : Heap) (R : Kv) : Prop := run S (.call 66 []) [] H fun t9_1 H => run S (.un .not (.c t9_1)) [] H fun t10_2 H => jn (sq (fun e4 H =>
  run S (.lenL (.c (e4 0))) [] H fun t12_5 H => run S (.bin .gtr (.c t12_5) (.c (.int .i64 260))) [] H fun t13_6 H => gd t13_6 false (run S (.mv (.c (e4 1))) [] H) H fun
  t15_7 H => gd t13_6 false (run S (.lenL (.c t15_7)) [] H) H fun t16_8 H => gd t13_6 false (run S (.bin .gtr (.c t16_8) (.c (.int .i64 260))) [] H) H fun t17_9 H => run
  S (.pick (.c t13_6) (.c (.bool true)) (.c t17_9)) [] H fun t18_10 H => jn (sq (fun e12 H => run S (.call 71 [(.c (e12 0)), (.c (e12 1))]) [] H fun t22_13 H => run S
  (.xt (.c t22_13) 0) [] H fun t23_14 H => run S (.xt (.c t22_13) 1) [] H fun t24_15 H => run S (.call 72 [(.c (e12 0))]) [] H fun t26_16 H => run S (.un .not (.c
  t26_16)) [] H fun t27_17 H => gd t27_17 false (run S (.mv (.c (e12 1))) [] H) H fun t29_18 H => gd t27_17 false (run S (.lenL (.c t29_18)) [] H) H fun t30_19 H => gd
  t27_17 false (run S (.mv (.c (e12 0))) [] H) H fun t31_20 H => gd t27_17 false (run S (.lenL (.c t31_20)) [] H) H fun t32_21 H => gd t27_17 false (run S (.bin .lss (.c
  t30_19) (.c t32_21)) [] H) H fun t33_22 H => run S (.pick (.c t27_17) (.c (.bool true)) (.c t33_22)) [] H fun t34_23 H => gd t34_23 false (run S (.mv (.c (e12 1))) []
  H) H fun t36_24 H => gd t34_23 false (run S (.call 73 [(.c t36_24)]) [] H) H fun t37_25 H => gd t34_23 false (run S (.un .not (.c t37_25)) [] H) H fun t38_26 H => run
  S (.pick (.c t34_23) (.c (.bool true)) (.c t38_26)) [] H fun t39_27 H => jn (sq (fun e29 H => run S (.call 74 [(.c (e29 0)), (.c (e29 1))]) [] H fun t49_30 H => run S
  (.xt (.c t49_30) 0) [] H fun t50_31 H => run S (.xt (.c t49_30) 1) [] H fun t51_32 H => run S (.eqv (.s .bool) false (.c (e29 6)) (.c t51_32)) [] H fun t54_33 H => gd
  t54_33 true (run S (.mv (.c (e29 5))) [] H) H fun t56_34 H => gd t54_33 true (run S (.mv (.c t50_31)) [] H) H fun t57_35 H => gd t54_33 true (run S (.bin .eql (.c
  t56_34) (.c t57_35)) [] H) H fun t58_36 H => run S (.pick (.c t54_33) (.c t58_36) (.c (.bool false))) [] H fun t59_37 H => R t59_37 H) (fn [(.t 4)] R)) fun Q28 => cnd
  t39_27 (fun Q38 => run S (.un .not (.c t24_15)) [] H fun t41_40 H => gd t41_40 true (run S (.mv (.c t23_14)) [] H) H fun t43_41 H => gd t41_40 true (run S (.bin .eql
  (.c t43_41) (.c (.int .i64 0))) [] H) H fun t44_42 H => run S (.pick (.c t41_40) (.c t44_42) (.c (.bool false))) [] H fun t45_43 H => Q38 .ret (upd (upd (upd (upd (upd
  (upd (upd (upd (upd (upd (upd (upd (upd (upd (upd (upd (upd (upd (upd (upd (upd (upd (upd (upd (upd (upd (upd (upd (upd (upd e12 20 (e12 0)) 21 (e12 1)) 22 t22_13) 19
  t22_13) 23 t23_14) 24 t24_15) 5 t23_14) 6 t24_15) 25 (e12 0)) 26 t26_16) 27 t27_17) 28 t27_17) 29 t29_18) 30 t30_19) 31 t31_20) 32 t32_21) 33 t33_22) 34 t34_23) 35
  t34_23) 36 t36_24) 37 t37_25) 38 t38_26) 39 t39_27) 40 t24_15) 41 t41_40) 42 t41_40) 43 t43_41) 44 t44_42) 45 t45_43) 4 t45_43) H) (fun Q39 => Q39 .normal (upd (upd
  (upd (upd (upd (upd (upd (upd (upd (upd (upd (upd (upd (upd (upd (upd (upd (upd (upd (upd (upd (upd (upd e12 20 (e12 0)) 21 (e12 1)) 22 t22_13) 19 t22_13) 23 t23_14)
  24 t24_15) 5 t23_14) 6 t24_15) 25 (e12 0)) 26 t26_16) 27 t27_17) 28 t27_17) 29 t29_18) 30 t30_19) 31 t31_20) 32 t32_21) 33 t33_22) 34 t34_23) 35 t34_23) 36 t36_24) 37
  t37_25) 38 t38_26) 39 t39_27) H) Q28) (fn [(.t 4)] R)) fun Q11 => cnd t18_10 (fun Q44 => Q44 .ret (upd (upd (upd (upd (upd (upd (upd (upd (upd e4 11 (e4 0)) 12 t12_5)
  13 t13_6) 14 t13_6) 15 t15_7) 16 t16_8) 17 t17_9) 18 t18_10) 4 (.bool true)) H) (fun Q45 => Q45 .normal (upd (upd (upd (upd (upd (upd (upd (upd e4 11 (e4 0)) 12 t12_5)
  13 t13_6) 14 t13_6) 15 t15_7) 16 t16_8) 17 t17_9) 18 t18_10) H) Q11) (fn [(.t 4)] R)) fun Q3 => cnd t10_2 (fun Q46 => Q46 .ret (upd (upd (upd (upd (Env.get [a0, a1]) 4
  (.bool false)) 9 t9_1) 10 t10_2) 4 (.bool false)) H) (fun Q47 => Q47 .normal (upd (upd (upd (Env.get [a0, a1]) 4 (.bool false)) 9 t9_1) 10 t10_2) H) Q3
theorem h15 (S : Sys) (a0 a1 : Value) (H : Heap) (R : Kv) : wpC S k15.body (Env.get [a0, a1]) H (fn [(.t 4)] R) = s15 S a0 a1 H R := by kernel_rfl
theorem w15 {S : Sys} (hR : S.R 15 = none) (hF : S.F 15 = some k15) (a0 a1 : Value) {H : Heap} {R : Kv} (h : s15 S a0 a1 H R) : Wf S 15 [a0, a1] H R := Wf_sh hR hF ((h15
  S a0 a1 H R).mpr h)
def b32_0 : KCode := (.seq (.seq (.reg [(.op (some 9) none (.mv (.t 5))), (.op (some 10) none (.mv (.t 0))), (.op (some 11) none (.lenL (.t 10))), (.op (some 12) none
  (.bin .lss (.t 9) (.t 11)))]) (.cond (.t 12) .skip (.exit 0))) (.seq (.block 1 (.seq (.reg [(.op (some 15) none (.mv (.t 0))), (.op (some 16) none (.mv (.t 5))), (.op
  (some 17) none (.iad 1 (.t 15) (.t 16))), (.op (some 18) none (.ld (.t 17))), (.op (some 19) none (.bin .gtr (.t 18) (.c (.int .i64 0))))]) (.cond (.t 19) (.seq (.reg
  [(.op (some 20) none (.mv (.t 3))), (.op (some 21) none (.mv (.t 0))), (.op (some 22) none (.mv (.t 5))), (.op (some 23) none (.iad 1 (.t 21) (.t 22))), (.op (some 24)
  none (.ld (.t 23))), (.op (some 25) none (.bin .sub (.c (.int .i64 11)) (.t 24))), (.op (some 26) none (.call 95 [(.t 25)])), (.op (some 27) none (.bin .add (.t 20)
  (.t 26))), (.op (some 3) none (.mv (.t 27)))]) (.reg [(.op (some 28) none (.mv (.t 4))), (.op (some 29) none (.bin .add (.t 28) (.c (.int .i64 1)))), (.op (some 4)
  none (.mv (.t 29)))])) .skip))) (.reg [(.op (some 13) none (.mv (.t 5))), (.op (some 14) none (.bin .add (.t 13) (.c (.int .i64 1)))), (.op (some 5) none (.mv (.t
  14)))])))
def s32_0 (S : Sys) (e : Fe) (H : Heap) (Q : Kx) : Prop := run S (.lenL (.c (e 0))) [] H fun t11_18 H => run S (.bin .lss (.c (e 5)) (.c t11_18)) [] H fun t12_19 H => jn
  (sq (fun e21 H => jn (sq (fun e23 H => run S (.bin .add (.c (e23 5)) (.c (.int .i64 1))) [] H fun t14_24 H => Q .normal (upd (upd (upd e23 13 (e23 5)) 14 t14_24) 5
  t14_24) H) Q) fun Q22 => run S (.iad 1 (.c (e21 0)) (.c (e21 5))) [] H fun t17_25 H => run S (.ld (.c t17_25)) [] H fun t18_26 H => run S (.bin .gtr (.c t18_26) (.c
  (.int .i64 0))) [] H fun t19_27 H => jn (blk 1 Q22) fun Q28 => cnd t19_27 (fun Q29 => run S (.iad 1 (.c (e21 0)) (.c (e21 5))) [] H fun t23_31 H => run S (.ld (.c
  t23_31)) [] H fun t24_32 H => run S (.bin .sub (.c (.int .i64 11)) (.c t24_32)) [] H fun t25_33 H => run S (.call 95 [(.c t25_33)]) [] H fun t26_34 H => run S (.bin
  .add (.c (e21 3)) (.c t26_34)) [] H fun t27_35 H => run S (.bin .add (.c (e21 4)) (.c (.int .i64 1))) [] H fun t29_36 H => Q29 .normal (upd (upd (upd (upd (upd (upd
  (upd (upd (upd (upd (upd (upd (upd (upd (upd (upd (upd e21 15 (e21 0)) 16 (e21 5)) 17 t17_25) 18 t18_26) 19 t19_27) 20 (e21 3)) 21 (e21 0)) 22 (e21 5)) 23 t23_31) 24
  t24_32) 25 t25_33) 26 t26_34) 27 t27_35) 3 t27_35) 28 (e21 4)) 29 t29_36) 4 t29_36) H) (fun Q30 => Q30 .normal (upd (upd (upd (upd (upd e21 15 (e21 0)) 16 (e21 5)) 17
  t17_25) 18 t18_26) 19 t19_27) H) Q28) Q) fun Q20 => cnd t12_19 (fun Q37 => Q37 .normal (upd (upd (upd (upd e 9 (e 5)) 10 (e 0)) 11 t11_18) 12 t12_19) H) (fun Q38 =>
  Q38 (.exit 0) (upd (upd (upd (upd e 9 (e 5)) 10 (e 0)) 11 t11_18) 12 t12_19) H) Q20
theorem h32_0 (S : Sys) (e : Fe) (H : Heap) (Q : Kx) : wpC S b32_0 e H Q = s32_0 S e H Q := by kernel_rfl
theorem l32_0 (S : Sys) {Q : Kx} (I : Nat → Fe → Heap → Prop) (d : Nat) {e0 : Fe} {H : Heap} (h0 : I d e0 H) (hr : ∀ (d : Nat) (e : Fe) (H : Heap), I d e H → s32_0 S e H
  (sq (fun e' H' => ∃ d', d' < d ∧ I d' e' H') Q)) : WL S b32_0 e0 H Q := WL_inv I d h0 fun d e H hi => (h32_0 S e H _).mpr (hr d e H hi)
theorem u32_0 (S : Sys) {Q : Kx} {e : Fe} {H : Heap} (h : s32_0 S e H (sq (fun e' H' => WL S b32_0 e' H' Q) Q)) : WL S b32_0 e H Q := WL_once ((h32_0 S e H _).mpr h)
def s32 (S : Sys) (a0 : Value) (H : Heap) (R : Kv) : Prop := run S (.call 73 [(.c a0)]) [] H fun t7_1 H => run S (.un .not (.c t7_1)) [] H fun t8_2 H => jn (sq (fun e4 H
  => jn (sq (fun e6 H => run S (.bin .eql (.c (e6 3)) (.c (.int .i64 2048))) [] H fun t31_7 H => gd t31_7 false (run S (.mv (.c (e6 4))) [] H) H fun t33_8 H => gd t31_7
  false (run S (.bin .eql (.c t33_8) (.c (.int .i64 1))) [] H) H fun t34_9 H => gd t31_7 false (run S (.mv (.c t34_9)) [] H) H fun t35_10 H => gd t35_10 true (run S (.mv
  (.c (e6 3))) [] H) H fun t36_11 H => gd t35_10 true (run S (.bin .eql (.c t36_11) (.c (.int .i64 1024))) [] H) H fun t37_12 H => gd t31_7 false (run S (.pick (.c
  t35_10) (.c t37_12) (.c (.bool false))) [] H) H fun t38_13 H => run S (.pick (.c t31_7) (.c (.bool true)) (.c t38_13)) [] H fun t39_14 H => R t39_14 H) (fn [(.t 2)]
  R)) fun Q5 => jn (blk 0 Q5) fun Q15 => WL S b32_0 (upd (upd (upd e4 3 (.int .i64 0)) 4 (.int .i64 0)) 5 (.int .i64 0)) H Q15) (fn [(.t 2)] R)) fun Q3 => cnd t8_2 (fun
  Q16 => Q16 .ret (upd (upd (upd (upd (upd (Env.get [a0]) 2 (.bool false)) 6 a0) 7 t7_1) 8 t8_2) 2 (.bool false)) H) (fun Q17 => Q17 .normal (upd (upd (upd (upd (Env.get
  [a0]) 2 (.bool false)) 6 a0) 7 t7_1) 8 t8_2) H) Q3
theorem h32 (S : Sys) (a0 : Value) (H : Heap) (R : Kv) : wpC S k32.body (Env.get [a0]) H (fn [(.t 2)] R) = s32 S a0 H R := by kernel_rfl
theorem w32 {S : Sys} (hR : S.R 32 = none) (hF : S.F 32 = some k32) (a0 : Value) {H : Heap} {R : Kv} (h : s32 S a0 H R) : Wf S 32 [a0] H R := Wf_sh hR hF ((h32 S a0 H
  R).mpr h)
def b67_1 : KCode := (.seq (.reg [(.op (some 22) none (.bin .lss (.t 21) (.t 20)))]) (.seq (.cond (.t 22) .skip (.exit 2)) (.seq (.block 3 (.seq (.reg [(.op (some 23)
  none (.mv (.t 21))), (.op (some 24) none (.iad 1 (.t 19) (.t 21))), (.op (some 25) none (.ld (.t 24))), (.op (some 7) none (.mv (.t 23))), (.op (some 8) none (.mv (.t
  25)))]) (.seq (.reg [(.op (some 26) none (.mv (.t 8))), (.op (some 27) none (.mv (.t 6))), (.op (some 28) none (.bin .eql (.t 26) (.t 27)))]) (.cond (.t 28) (.seq
  (.reg [(.op (some 29) none (.mv (.t 4))), (.op (some 30) none (.mv (.t 7))), (.op (some 31) none (.mv (.t 5))), (.op (some 32) none (.iad 1 (.t 29) (.t 30))), (.op
  none none (.st (.t 32) (.t 31)))]) (.reg [(.op (some 33) none (.mv (.t 5))), (.op (some 34) none (.bin .add (.t 33) (.c (.int .i64 1)))), (.op (some 5) none (.mv (.t
  34)))])) .skip)))) (.reg [(.op (some 35) none (.bin .add (.t 21) (.c (.int .i64 1)))), (.op (some 21) none (.mv (.t 35)))]))))
def s67_1 (S : Sys) (e : Fe) (H : Heap) (Q : Kx) : Prop := run S (.bin .lss (.c (e 21)) (.c (e 20))) [] H fun t22_26 H => jn (sq (fun e28 H => jn (sq (fun e30 H => run S
  (.bin .add (.c (e30 21)) (.c (.int .i64 1))) [] H fun t35_31 H => Q .normal (upd (upd e30 35 t35_31) 21 t35_31) H) Q) fun Q29 => run S (.iad 1 (.c (e28 19)) (.c (e28
  21))) [] H fun t24_32 H => run S (.ld (.c t24_32)) [] H fun t25_33 H => run S (.bin .eql (.c t25_33) (.c (e28 6))) [] H fun t28_34 H => jn (blk 3 Q29) fun Q35 => cnd
  t28_34 (fun Q36 => run S (.iad 1 (.c (e28 4)) (.c (e28 21))) [] H fun t32_38 H => run S (.st (.c t32_38) (.c (e28 5))) [] H fun _ H => run S (.bin .add (.c (e28 5))
  (.c (.int .i64 1))) [] H fun t34_39 H => Q36 .normal (upd (upd (upd (upd (upd (upd (upd (upd (upd (upd (upd (upd (upd (upd (upd e28 23 (e28 21)) 24 t24_32) 25 t25_33)
  7 (e28 21)) 8 t25_33) 26 t25_33) 27 (e28 6)) 28 t28_34) 29 (e28 4)) 30 (e28 21)) 31 (e28 5)) 32 t32_38) 33 (e28 5)) 34 t34_39) 5 t34_39) H) (fun Q37 => Q37 .normal
  (upd (upd (upd (upd (upd (upd (upd (upd e28 23 (e28 21)) 24 t24_32) 25 t25_33) 7 (e28 21)) 8 t25_33) 26 t25_33) 27 (e28 6)) 28 t28_34) H) Q35) Q) fun Q27 => cnd t22_26
  (fun Q40 => Q40 .normal (upd e 22 t22_26) H) (fun Q41 => Q41 (.exit 2) (upd e 22 t22_26) H) Q27
theorem h67_1 (S : Sys) (e : Fe) (H : Heap) (Q : Kx) : wpC S b67_1 e H Q = s67_1 S e H Q := by kernel_rfl
theorem l67_1 (S : Sys) {Q : Kx} (I : Nat → Fe → Heap → Prop) (d : Nat) {e0 : Fe} {H : Heap} (h0 : I d e0 H) (hr : ∀ (d : Nat) (e : Fe) (H : Heap), I d e H → s67_1 S e H
  (sq (fun e' H' => ∃ d', d' < d ∧ I d' e' H') Q)) : WL S b67_1 e0 H Q := WL_inv I d h0 fun d e H hi => (h67_1 S e H _).mpr (hr d e H hi)
theorem u67_1 (S : Sys) {Q : Kx} {e : Fe} {H : Heap} (h : s67_1 S e H (sq (fun e' H' => WL S b67_1 e' H' Q) Q)) : WL S b67_1 e H Q := WL_once ((h67_1 S e H _).mpr h)
def b67_0 : KCode := (.seq (.seq (.reg [(.op (some 15) none (.mv (.t 6))), (.op (some 16) none (.bin .leq (.t 15) (.c (.int .i64 11))))]) (.cond (.t 16) .skip (.exit
  0))) (.seq (.block 1 (.seq (.seq (.reg [(.op (some 19) none (.mv (.t 0))), (.op (some 20) none (.lenL (.t 19))), (.op (some 21) none (.mv (.c (.int .i64 0))))])
  (.block 2 (.loop (.seq (.reg [(.op (some 22) none (.bin .lss (.t 21) (.t 20)))]) (.seq (.cond (.t 22) .skip (.exit 2)) (.seq (.block 3 (.seq (.reg [(.op (some 23) none
  (.mv (.t 21))), (.op (some 24) none (.iad 1 (.t 19) (.t 21))), (.op (some 25) none (.ld (.t 24))), (.op (some 7) none (.mv (.t 23))), (.op (some 8) none (.mv (.t
  25)))]) (.seq (.reg [(.op (some 26) none (.mv (.t 8))), (.op (some 27) none (.mv (.t 6))), (.op (some 28) none (.bin .eql (.t 26) (.t 27)))]) (.cond (.t 28) (.seq
  (.reg [(.op (some 29) none (.mv (.t 4))), (.op (some 30) none (.mv (.t 7))), (.op (some 31) none (.mv (.t 5))), (.op (some 32) none (.iad 1 (.t 29) (.t 30))), (.op
  none none (.st (.t 32) (.t 31)))]) (.reg [(.op (some 33) none (.mv (.t 5))), (.op (some 34) none (.bin .add (.t 33) (.c (.int .i64 1)))), (.op (some 5) none (.mv (.t
  34)))])) .skip)))) (.reg [(.op (some 35) none (.bin .add (.t 21) (.c (.int .i64 1)))), (.op (some 21) none (.mv (.t 35)))]))))))) (.reg [(.op (some 36) none (.mv (.t
  5))), (.op (some 37) none (.bin .shl (.t 36) (.c (.int .u64 1)))), (.op (some 5) none (.mv (.t 37)))]))) (.reg [(.op (some 17) none (.mv (.t 6))), (.op (some 18) none
  (.bin .add (.t 17) (.c (.int .i64 1)))), (.op (some 6) none (.mv (.t 18)))])))
def s67_0 (S : Sys) (e : Fe) (H : Heap) (Q : Kx) : Prop := run S (.bin .leq (.c (e 6)) (.c (.int .i64 11))) [] H fun t16_12 H => jn (sq (fun e14 H => jn (sq (fun e16 H
  => run S (.bin .add (.c (e16 6)) (.c (.int .i64 1))) [] H fun t18_17 H => Q .normal (upd (upd (upd e16 17 (e16 6)) 18 t18_17) 6 t18_17) H) Q) fun Q15 => run S (.lenL
  (.c (e14 0))) [] H fun t20_18 H => jn (blk 1 Q15) fun Q19 => jn (sq (fun e21 H => run S (.bin .shl (.c (e21 5)) (.c (.int .u64 1))) [] H fun t37_22 H => Q19 .normal
  (upd (upd (upd e21 36 (e21 5)) 37 t37_22) 5 t37_22) H) Q19) fun Q20 => jn (blk 2 Q20) fun Q23 => WL S b67_1 (upd (upd (upd e14 19 (e14 0)) 20 t20_18) 21 (.int .i64 0))
  H Q23) Q) fun Q13 => cnd t16_12 (fun Q24 => Q24 .normal (upd (upd e 15 (e 6)) 16 t16_12) H) (fun Q25 => Q25 (.exit 0) (upd (upd e 15 (e 6)) 16 t16_12) H) Q13
theorem h67_0 (S : Sys) (e : Fe) (H : Heap) (Q : Kx) : wpC S b67_0 e H Q = s67_0 S e H Q := by kernel_rfl
theorem l67_0 (S : Sys) {Q : Kx} (I : Nat → Fe → Heap → Prop) (d : Nat) {e0 : Fe} {H : Heap} (h0 : I d e0 H) (hr : ∀ (d : Nat) (e : Fe) (H : Heap), I d e H → s67_0 S e H
  (sq (fun e' H' => ∃ d', d' < d ∧ I d' e' H') Q)) : WL S b67_0 e0 H Q := WL_inv I d h0 fun d e H hi => (h67_0 S e H _).mpr (hr d e H hi)
theorem u67_0 (S : Sys) {Q : Kx} {e : Fe} {H : Heap} (h : s67_0 S e H (sq (fun e' H' => WL S b67_0 e' H' Q) Q)) : WL S b67_0 e H Q := WL_once ((h67_0 S e H _).mpr h)
def s67 (S : Sys) (a0 : Value) (H : Heap) (R : Kv) : Prop := run S (.call 68 [(.c a0)]) [] H fun t10_1 H => run S (.un .not (.c t10_1)) [] H fun t11_2 H => jn (sq (fun
  e4 H => run S (.lenL (.c (e4 0))) [] H fun t13_5 H => run S (.mks 3 [(.int .i64 0)] 8 (.c t13_5) (.c t13_5)) [] H fun t14_6 H => jn (sq (fun e8 H => R (tup [(e8 4),
  (.bool true)]) H) (fn [(.t 2), (.t 3)] R)) fun Q7 => jn (blk 0 Q7) fun Q9 => WL S b67_0 (upd (upd (upd (upd (upd (upd e4 12 (e4 0)) 13 t13_5) 14 t14_6) 4 t14_6) 5
  (.int .i64 0)) 6 (.int .i64 1)) H Q9) (fn [(.t 2), (.t 3)] R)) fun Q3 => cnd t11_2 (fun Q10 => Q10 .ret (upd (upd (upd (upd (upd (upd (upd (Env.get [a0]) 2 (.slice
  none 0 0)) 3 (.bool false)) 9 a0) 10 t10_1) 11 t11_2) 2 (.slice none 0 0)) 3 (.bool false)) H) (fun Q11 => Q11 .normal (upd (upd (upd (upd (upd (Env.get [a0]) 2
  (.slice none 0 0)) 3 (.bool false)) 9 a0) 10 t10_1) 11 t11_2) H) Q3
theorem h67 (S : Sys) (a0 : Value) (H : Heap) (R : Kv) : wpC S k67.body (Env.get [a0]) H (fn [(.t 2), (.t 3)] R) = s67 S a0 H R := by kernel_rfl
theorem w67 {S : Sys} (hR : S.R 67 = none) (hF : S.F 67 = some k67) (a0 : Value) {H : Heap} {R : Kv} (h : s67 S a0 H R) : Wf S 67 [a0] H R := Wf_sh hR hF ((h67 S a0 H
  R).mpr h)
def b68_0 : KCode := (.seq (.reg [(.op (some 14) none (.bin .lss (.t 13) (.t 12)))]) (.seq (.cond (.t 14) .skip (.exit 0)) (.seq (.block 1 (.seq (.reg [(.op (some 15)
  none (.iad 1 (.t 11) (.t 13))), (.op (some 16) none (.ld (.t 15))), (.op (some 7) none (.mv (.t 16)))]) (.seq (.reg [(.op (some 17) none (.mv (.t 7))), (.op (some 18)
  none (.bin .gtr (.t 17) (.c (.int .i64 0))))]) (.cond (.t 18) (.seq (.reg [(.op (some 19) none (.mv (.t 3))), (.op (some 20) none (.mv (.t 7))), (.op (some 21) none
  (.bin .sub (.c (.int .i64 11)) (.t 20))), (.op (some 22) none (.bin .shl (.c (.int .i64 1)) (.t 21))), (.op (some 23) none (.bin .sub (.t 19) (.t 22))), (.op (some 3)
  none (.mv (.t 23)))]) (.seq (.reg [(.op (some 24) none (.mv (.t 4))), (.op (some 25) none (.bin .add (.t 24) (.c (.int .i64 1)))), (.op (some 4) none (.mv (.t 25)))])
  (.reg [(.op (some 26) none (.mv (.t 7))), (.op (some 27) none (.bin .eql (.t 26) (.c (.int .i64 1)))), (.op (some 5) none (.mv (.t 27)))]))) .skip)))) (.reg [(.op
  (some 28) none (.bin .add (.t 13) (.c (.int .i64 1)))), (.op (some 13) none (.mv (.t 28)))]))))
def s68_0 (S : Sys) (e : Fe) (H : Heap) (Q : Kx) : Prop := run S (.bin .lss (.c (e 13)) (.c (e 12))) [] H fun t14_18 H => jn (sq (fun e20 H => jn (sq (fun e22 H => run S
  (.bin .add (.c (e22 13)) (.c (.int .i64 1))) [] H fun t28_23 H => Q .normal (upd (upd e22 28 t28_23) 13 t28_23) H) Q) fun Q21 => run S (.iad 1 (.c (e20 11)) (.c (e20
  13))) [] H fun t15_24 H => run S (.ld (.c t15_24)) [] H fun t16_25 H => run S (.bin .gtr (.c t16_25) (.c (.int .i64 0))) [] H fun t18_26 H => jn (blk 1 Q21) fun Q27 =>
  cnd t18_26 (fun Q28 => run S (.bin .sub (.c (.int .i64 11)) (.c t16_25)) [] H fun t21_30 H => run S (.bin .shl (.c (.int .i64 1)) (.c t21_30)) [] H fun t22_31 H => run
  S (.bin .sub (.c (e20 3)) (.c t22_31)) [] H fun t23_32 H => run S (.bin .add (.c (e20 4)) (.c (.int .i64 1))) [] H fun t25_33 H => run S (.bin .eql (.c t16_25) (.c
  (.int .i64 1))) [] H fun t27_34 H => Q28 .normal (upd (upd (upd (upd (upd (upd (upd (upd (upd (upd (upd (upd (upd (upd (upd (upd (upd e20 15 t15_24) 16 t16_25) 7
  t16_25) 17 t16_25) 18 t18_26) 19 (e20 3)) 20 t16_25) 21 t21_30) 22 t22_31) 23 t23_32) 3 t23_32) 24 (e20 4)) 25 t25_33) 4 t25_33) 26 t16_25) 27 t27_34) 5 t27_34) H)
  (fun Q29 => Q29 .normal (upd (upd (upd (upd (upd e20 15 t15_24) 16 t16_25) 7 t16_25) 17 t16_25) 18 t18_26) H) Q27) Q) fun Q19 => cnd t14_18 (fun Q35 => Q35 .normal
  (upd e 14 t14_18) H) (fun Q36 => Q36 (.exit 0) (upd e 14 t14_18) H) Q19
theorem h68_0 (S : Sys) (e : Fe) (H : Heap) (Q : Kx) : wpC S b68_0 e H Q = s68_0 S e H Q := by kernel_rfl
theorem l68_0 (S : Sys) {Q : Kx} (I : Nat → Fe → Heap → Prop) (d : Nat) {e0 : Fe} {H : Heap} (h0 : I d e0 H) (hr : ∀ (d : Nat) (e : Fe) (H : Heap), I d e H → s68_0 S e H
  (sq (fun e' H' => ∃ d', d' < d ∧ I d' e' H') Q)) : WL S b68_0 e0 H Q := WL_inv I d h0 fun d e H hi => (h68_0 S e H _).mpr (hr d e H hi)
theorem u68_0 (S : Sys) {Q : Kx} {e : Fe} {H : Heap} (h : s68_0 S e H (sq (fun e' H' => WL S b68_0 e' H' Q) Q)) : WL S b68_0 e H Q := WL_once ((h68_0 S e H _).mpr h)
def s68 (S : Sys) (a0 : Value) (H : Heap) (R : Kv) : Prop := run S (.call 130 [(.c a0)]) [] H fun t9_1 H => run S (.un .not (.c t9_1)) [] H fun t10_2 H => jn (sq (fun e4
  H => run S (.lenL (.c (e4 0))) [] H fun t12_5 H => jn (sq (fun e7 H => run S (.bin .eql (.c (e7 3)) (.c (.int .i64 0))) [] H fun t30_8 H => gd t30_8 false (run S (.mv
  (.c (e7 4))) [] H) H fun t32_9 H => gd t30_8 false (run S (.bin .eql (.c t32_9) (.c (.int .i64 1))) [] H) H fun t33_10 H => gd t30_8 false (run S (.mv (.c t33_10)) []
  H) H fun t34_11 H => gd t34_11 true (run S (.mv (.c (e7 5))) [] H) H fun t35_12 H => gd t30_8 false (run S (.pick (.c t34_11) (.c t35_12) (.c (.bool false))) [] H) H
  fun t36_13 H => run S (.pick (.c t30_8) (.c (.bool true)) (.c t36_13)) [] H fun t37_14 H => R t37_14 H) (fn [(.t 2)] R)) fun Q6 => jn (blk 0 Q6) fun Q15 => WL S b68_0
  (upd (upd (upd (upd (upd (upd e4 3 (.int .i64 2048)) 4 (.int .i64 0)) 5 (.bool false)) 11 (e4 0)) 12 t12_5) 13 (.int .i64 0)) H Q15) (fn [(.t 2)] R)) fun Q3 => cnd
  t10_2 (fun Q16 => Q16 .ret (upd (upd (upd (upd (upd (Env.get [a0]) 2 (.bool false)) 8 a0) 9 t9_1) 10 t10_2) 2 (.bool false)) H) (fun Q17 => Q17 .normal (upd (upd (upd
  (upd (Env.get [a0]) 2 (.bool false)) 8 a0) 9 t9_1) 10 t10_2) H) Q3
theorem h68 (S : Sys) (a0 : Value) (H : Heap) (R : Kv) : wpC S k68.body (Env.get [a0]) H (fn [(.t 2)] R) = s68 S a0 H R := by kernel_rfl
theorem w68 {S : Sys} (hR : S.R 68 = none) (hF : S.F 68 = some k68) (a0 : Value) {H : Heap} {R : Kv} (h : s68 S a0 H R) : Wf S 68 [a0] H R := Wf_sh hR hF ((h68 S a0 H
  R).mpr h)
def b69_0 : KCode := (.seq (.reg [(.op (some 14) none (.bin .lss (.t 13) (.t 12)))]) (.seq (.cond (.t 14) .skip (.exit 0)) (.seq (.block 1 (.seq (.reg [(.op (some 15)
  none (.mv (.t 13))), (.op (some 5) none (.mv (.t 15)))]) (.seq (.reg [(.op (some 16) none (.mv (.t 0))), (.op (some 17) none (.mv (.t 5))), (.op (some 18) none (.iad 1
  (.t 16) (.t 17))), (.op (some 19) none (.ld (.t 18))), (.op (some 20) none (.mv (.t 1))), (.op (some 21) none (.mv (.t 5))), (.op (some 22) none (.iad 1 (.t 20) (.t
  21))), (.op (some 23) none (.ld (.t 22))), (.op (some 24) none (.bin .neq (.t 19) (.t 23)))]) (.cond (.t 24) (.seq (.reg [(.op (some 4) none (.mv (.c (.bool
  false))))]) .ret) .skip)))) (.reg [(.op (some 25) none (.bin .add (.t 13) (.c (.int .i64 1)))), (.op (some 13) none (.mv (.t 25)))]))))
def s69_0 (S : Sys) (e : Fe) (H : Heap) (Q : Kx) : Prop := run S (.bin .lss (.c (e 13)) (.c (e 12))) [] H fun t14_12 H => jn (sq (fun e14 H => jn (sq (fun e16 H => run S
  (.bin .add (.c (e16 13)) (.c (.int .i64 1))) [] H fun t25_17 H => Q .normal (upd (upd e16 25 t25_17) 13 t25_17) H) Q) fun Q15 => run S (.iad 1 (.c (e14 0)) (.c (e14
  13))) [] H fun t18_18 H => run S (.ld (.c t18_18)) [] H fun t19_19 H => run S (.iad 1 (.c (e14 1)) (.c (e14 13))) [] H fun t22_20 H => run S (.ld (.c t22_20)) [] H fun
  t23_21 H => run S (.bin .neq (.c t19_19) (.c t23_21)) [] H fun t24_22 H => jn (blk 1 Q15) fun Q23 => cnd t24_22 (fun Q24 => Q24 .ret (upd (upd (upd (upd (upd (upd (upd
  (upd (upd (upd (upd (upd e14 15 (e14 13)) 5 (e14 13)) 16 (e14 0)) 17 (e14 13)) 18 t18_18) 19 t19_19) 20 (e14 1)) 21 (e14 13)) 22 t22_20) 23 t23_21) 24 t24_22) 4 (.bool
  false)) H) (fun Q25 => Q25 .normal (upd (upd (upd (upd (upd (upd (upd (upd (upd (upd (upd e14 15 (e14 13)) 5 (e14 13)) 16 (e14 0)) 17 (e14 13)) 18 t18_18) 19 t19_19)
  20 (e14 1)) 21 (e14 13)) 22 t22_20) 23 t23_21) 24 t24_22) H) Q23) Q) fun Q13 => cnd t14_12 (fun Q26 => Q26 .normal (upd e 14 t14_12) H) (fun Q27 => Q27 (.exit 0) (upd
  e 14 t14_12) H) Q13
theorem h69_0 (S : Sys) (e : Fe) (H : Heap) (Q : Kx) : wpC S b69_0 e H Q = s69_0 S e H Q := by kernel_rfl
theorem l69_0 (S : Sys) {Q : Kx} (I : Nat → Fe → Heap → Prop) (d : Nat) {e0 : Fe} {H : Heap} (h0 : I d e0 H) (hr : ∀ (d : Nat) (e : Fe) (H : Heap), I d e H → s69_0 S e H
  (sq (fun e' H' => ∃ d', d' < d ∧ I d' e' H') Q)) : WL S b69_0 e0 H Q := WL_inv I d h0 fun d e H hi => (h69_0 S e H _).mpr (hr d e H hi)
theorem u69_0 (S : Sys) {Q : Kx} {e : Fe} {H : Heap} (h : s69_0 S e H (sq (fun e' H' => WL S b69_0 e' H' Q) Q)) : WL S b69_0 e H Q := WL_once ((h69_0 S e H _).mpr h)
def s69 (S : Sys) (a0 a1 : Value) (H : Heap) (R : Kv) : Prop := run S (.lenL (.c a0)) [] H fun t7_1 H => run S (.lenL (.c a1)) [] H fun t9_2 H => run S (.bin .neq (.c
  t7_1) (.c t9_2)) [] H fun t10_3 H => jn (sq (fun e5 H => run S (.lenL (.c (e5 0))) [] H fun t12_6 H => jn (sq (fun e8 H => R (.bool true) H) (fn [(.t 4)] R)) fun Q7 =>
  jn (blk 0 Q7) fun Q9 => WL S b69_0 (upd (upd (upd e5 11 (e5 0)) 12 t12_6) 13 (.int .i64 0)) H Q9) (fn [(.t 4)] R)) fun Q4 => cnd t10_3 (fun Q10 => Q10 .ret (upd (upd
  (upd (upd (upd (upd (upd (Env.get [a0, a1]) 4 (.bool false)) 6 a0) 7 t7_1) 8 a1) 9 t9_2) 10 t10_3) 4 (.bool false)) H) (fun Q11 => Q11 .normal (upd (upd (upd (upd (upd
  (upd (Env.get [a0, a1]) 4 (.bool false)) 6 a0) 7 t7_1) 8 a1) 9 t9_2) 10 t10_3) H) Q4
theorem h69 (S : Sys) (a0 a1 : Value) (H : Heap) (R : Kv) : wpC S k69.body (Env.get [a0, a1]) H (fn [(.t 4)] R) = s69 S a0 a1 H R := by kernel_rfl
theorem w69 {S : Sys} (hR : S.R 69 = none) (hF : S.F 69 = some k69) (a0 a1 : Value) {H : Heap} {R : Kv} (h : s69 S a0 a1 H R) : Wf S 69 [a0, a1] H R := Wf_sh hR hF ((h69
  S a0 a1 H R).mpr h)
def b70_1 : KCode := (.seq (.seq (.reg [(.op (some 21) none (.mv (.t 6))), (.op (some 22) none (.mv (.t 0))), (.op (some 23) none (.lenL (.t 22))), (.op (some 24) none
  (.bin .lss (.t 21) (.t 23)))]) (.cond (.t 24) .skip (.exit 2))) (.seq (.block 3 (.seq (.reg [(.op (some 27) none (.mv (.t 0))), (.op (some 28) none (.mv (.t 6))), (.op
  (some 29) none (.iad 1 (.t 27) (.t 28))), (.op (some 30) none (.ld (.t 29))), (.op (some 31) none (.bin .gtr (.t 30) (.c (.int .i64 0)))), (.op (some 32) none (.mv (.t
  31))), (.op (some 33) (some (32, true)) (.mv (.t 0))), (.op (some 34) (some (32, true)) (.mv (.t 6))), (.op (some 35) (some (32, true)) (.iad 1 (.t 33) (.t 34))), (.op
  (some 36) (some (32, true)) (.ld (.t 35))), (.op (some 37) (some (32, true)) (.mv (.t 0))), (.op (some 38) (some (32, true)) (.mv (.t 4))), (.op (some 39) (some (32,
  true)) (.iad 1 (.t 37) (.t 38))), (.op (some 40) (some (32, true)) (.ld (.t 39))), (.op (some 41) (some (32, true)) (.bin .lss (.t 36) (.t 40))), (.op (some 42) (some
  (32, true)) (.mv (.t 41))), (.op (some 43) (some (42, false)) (.mv (.t 0))), (.op (some 44) (some (42, false)) (.mv (.t 6))), (.op (some 45) (some (42, false)) (.iad 1
  (.t 43) (.t 44))), (.op (some 46) (some (42, false)) (.ld (.t 45))), (.op (some 47) (some (42, false)) (.mv (.t 0))), (.op (some 48) (some (42, false)) (.mv (.t 4))),
  (.op (some 49) (some (42, false)) (.iad 1 (.t 47) (.t 48))), (.op (some 50) (some (42, false)) (.ld (.t 49))), (.op (some 51) (some (42, false)) (.bin .eql (.t 46) (.t
  50))), (.op (some 52) (some (42, false)) (.mv (.t 51))), (.op (some 53) (some (52, true)) (.mv (.t 6))), (.op (some 54) (some (52, true)) (.mv (.t 4))), (.op (some 55)
  (some (52, true)) (.bin .lss (.t 53) (.t 54))), (.op (some 56) (some (42, false)) (.pick (.t 52) (.t 55) (.c (.bool false)))), (.op (some 57) (some (32, true)) (.pick
  (.t 42) (.c (.bool true)) (.t 56))), (.op (some 58) none (.pick (.t 32) (.t 57) (.c (.bool false))))]) (.cond (.t 58) (.reg [(.op (some 59) none (.mv (.t 5))), (.op
  (some 60) none (.mv (.t 0))), (.op (some 61) none (.mv (.t 6))), (.op (some 62) none (.iad 1 (.t 60) (.t 61))), (.op (some 63) none (.ld (.t 62))), (.op (some 64) none
  (.bin .sub (.c (.int .i64 11)) (.t 63))), (.op (some 65) none (.call 95 [(.t 64)])), (.op (some 66) none (.bin .add (.t 59) (.t 65))), (.op (some 5) none (.mv (.t
  66)))]) .skip))) (.reg [(.op (some 25) none (.mv (.t 6))), (.op (some 26) none (.bin .add (.t 25) (.c (.int .i64 1)))), (.op (some 6) none (.mv (.t 26)))])))
def s70_1 (S : Sys) (e : Fe) (H : Heap) (Q : Kx) : Prop := run S (.lenL (.c (e 0))) [] H fun t23_32 H => run S (.bin .lss (.c (e 6)) (.c t23_32)) [] H fun t24_33 H => jn
  (sq (fun e35 H => jn (sq (fun e37 H => run S (.bin .add (.c (e37 6)) (.c (.int .i64 1))) [] H fun t26_38 H => Q .normal (upd (upd (upd e37 25 (e37 6)) 26 t26_38) 6
  t26_38) H) Q) fun Q36 => run S (.iad 1 (.c (e35 0)) (.c (e35 6))) [] H fun t29_39 H => run S (.ld (.c t29_39)) [] H fun t30_40 H => run S (.bin .gtr (.c t30_40) (.c
  (.int .i64 0))) [] H fun t31_41 H => gd t31_41 true (run S (.mv (.c (e35 0))) [] H) H fun t33_42 H => gd t31_41 true (run S (.mv (.c (e35 6))) [] H) H fun t34_43 H =>
  gd t31_41 true (run S (.iad 1 (.c t33_42) (.c t34_43)) [] H) H fun t35_44 H => gd t31_41 true (run S (.ld (.c t35_44)) [] H) H fun t36_45 H => gd t31_41 true (run S
  (.mv (.c (e35 0))) [] H) H fun t37_46 H => gd t31_41 true (run S (.mv (.c (e35 4))) [] H) H fun t38_47 H => gd t31_41 true (run S (.iad 1 (.c t37_46) (.c t38_47)) []
  H) H fun t39_48 H => gd t31_41 true (run S (.ld (.c t39_48)) [] H) H fun t40_49 H => gd t31_41 true (run S (.bin .lss (.c t36_45) (.c t40_49)) [] H) H fun t41_50 H =>
  gd t31_41 true (run S (.mv (.c t41_50)) [] H) H fun t42_51 H => gd t42_51 false (run S (.mv (.c (e35 0))) [] H) H fun t43_52 H => gd t42_51 false (run S (.mv (.c (e35
  6))) [] H) H fun t44_53 H => gd t42_51 false (run S (.iad 1 (.c t43_52) (.c t44_53)) [] H) H fun t45_54 H => gd t42_51 false (run S (.ld (.c t45_54)) [] H) H fun
  t46_55 H => gd t42_51 false (run S (.mv (.c (e35 0))) [] H) H fun t47_56 H => gd t42_51 false (run S (.mv (.c (e35 4))) [] H) H fun t48_57 H => gd t42_51 false (run S
  (.iad 1 (.c t47_56) (.c t48_57)) [] H) H fun t49_58 H => gd t42_51 false (run S (.ld (.c t49_58)) [] H) H fun t50_59 H => gd t42_51 false (run S (.bin .eql (.c t46_55)
  (.c t50_59)) [] H) H fun t51_60 H => gd t42_51 false (run S (.mv (.c t51_60)) [] H) H fun t52_61 H => gd t52_61 true (run S (.mv (.c (e35 6))) [] H) H fun t53_62 H =>
  gd t52_61 true (run S (.mv (.c (e35 4))) [] H) H fun t54_63 H => gd t52_61 true (run S (.bin .lss (.c t53_62) (.c t54_63)) [] H) H fun t55_64 H => gd t42_51 false (run
  S (.pick (.c t52_61) (.c t55_64) (.c (.bool false))) [] H) H fun t56_65 H => gd t31_41 true (run S (.pick (.c t42_51) (.c (.bool true)) (.c t56_65)) [] H) H fun t57_66
  H => run S (.pick (.c t31_41) (.c t57_66) (.c (.bool false))) [] H fun t58_67 H => jn (blk 3 Q36) fun Q68 => cnd t58_67 (fun Q69 => run S (.iad 1 (.c (e35 0)) (.c (e35
  6))) [] H fun t62_71 H => run S (.ld (.c t62_71)) [] H fun t63_72 H => run S (.bin .sub (.c (.int .i64 11)) (.c t63_72)) [] H fun t64_73 H => run S (.call 95 [(.c
  t64_73)]) [] H fun t65_74 H => run S (.bin .add (.c (e35 5)) (.c t65_74)) [] H fun t66_75 H => Q69 .normal (upd (upd (upd (upd (upd (upd (upd (upd (upd (upd (upd (upd
  (upd (upd (upd (upd (upd (upd (upd (upd (upd (upd (upd (upd (upd (upd (upd (upd (upd (upd (upd (upd (upd (upd (upd (upd (upd (upd (upd (upd (upd e35 27 (e35 0)) 28
  (e35 6)) 29 t29_39) 30 t30_40) 31 t31_41) 32 t31_41) 33 t33_42) 34 t34_43) 35 t35_44) 36 t36_45) 37 t37_46) 38 t38_47) 39 t39_48) 40 t40_49) 41 t41_50) 42 t42_51) 43
  t43_52) 44 t44_53) 45 t45_54) 46 t46_55) 47 t47_56) 48 t48_57) 49 t49_58) 50 t50_59) 51 t51_60) 52 t52_61) 53 t53_62) 54 t54_63) 55 t55_64) 56 t56_65) 57 t57_66) 58
  t58_67) 59 (e35 5)) 60 (e35 0)) 61 (e35 6)) 62 t62_71) 63 t63_72) 64 t64_73) 65 t65_74) 66 t66_75) 5 t66_75) H) (fun Q70 => Q70 .normal (upd (upd (upd (upd (upd (upd
  (upd (upd (upd (upd (upd (upd (upd (upd (upd (upd (upd (upd (upd (upd (upd (upd (upd (upd (upd (upd (upd (upd (upd (upd (upd (upd e35 27 (e35 0)) 28 (e35 6)) 29
  t29_39) 30 t30_40) 31 t31_41) 32 t31_41) 33 t33_42) 34 t34_43) 35 t35_44) 36 t36_45) 37 t37_46) 38 t38_47) 39 t39_48) 40 t40_49) 41 t41_50) 42 t42_51) 43 t43_52) 44
  t44_53) 45 t45_54) 46 t46_55) 47 t47_56) 48 t48_57) 49 t49_58) 50 t50_59) 51 t51_60) 52 t52_61) 53 t53_62) 54 t54_63) 55 t55_64) 56 t56_65) 57 t57_66) 58 t58_67) H)
  Q68) Q) fun Q34 => cnd t24_33 (fun Q76 => Q76 .normal (upd (upd (upd (upd e 21 (e 6)) 22 (e 0)) 23 t23_32) 24 t24_33) H) (fun Q77 => Q77 (.exit 2) (upd (upd (upd (upd
  e 21 (e 6)) 22 (e 0)) 23 t23_32) 24 t24_33) H) Q34
theorem h70_1 (S : Sys) (e : Fe) (H : Heap) (Q : Kx) : wpC S b70_1 e H Q = s70_1 S e H Q := by kernel_rfl
theorem l70_1 (S : Sys) {Q : Kx} (I : Nat → Fe → Heap → Prop) (d : Nat) {e0 : Fe} {H : Heap} (h0 : I d e0 H) (hr : ∀ (d : Nat) (e : Fe) (H : Heap), I d e H → s70_1 S e H
  (sq (fun e' H' => ∃ d', d' < d ∧ I d' e' H') Q)) : WL S b70_1 e0 H Q := WL_inv I d h0 fun d e H hi => (h70_1 S e H _).mpr (hr d e H hi)
theorem u70_1 (S : Sys) {Q : Kx} {e : Fe} {H : Heap} (h : s70_1 S e H (sq (fun e' H' => WL S b70_1 e' H' Q) Q)) : WL S b70_1 e H Q := WL_once ((h70_1 S e H _).mpr h)
def b70_0 : KCode := (.seq (.seq (.reg [(.op (some 10) none (.mv (.t 4))), (.op (some 11) none (.mv (.t 0))), (.op (some 12) none (.lenL (.t 11))), (.op (some 13) none
  (.bin .lss (.t 10) (.t 12)))]) (.cond (.t 13) .skip (.exit 0))) (.seq (.block 1 (.seq (.seq (.reg [(.op (some 16) none (.mv (.t 0))), (.op (some 17) none (.mv (.t
  4))), (.op (some 18) none (.iad 1 (.t 16) (.t 17))), (.op (some 19) none (.ld (.t 18))), (.op (some 20) none (.bin .eql (.t 19) (.c (.int .i64 0))))]) (.cond (.t 20)
  (.exit 1) .skip)) (.seq (.reg [(.op (some 5) none (.mv (.c (.int .i64 0))))]) (.seq (.seq (.reg [(.op (some 6) none (.mv (.c (.int .i64 0))))]) (.block 2 (.loop (.seq
  (.seq (.reg [(.op (some 21) none (.mv (.t 6))), (.op (some 22) none (.mv (.t 0))), (.op (some 23) none (.lenL (.t 22))), (.op (some 24) none (.bin .lss (.t 21) (.t
  23)))]) (.cond (.t 24) .skip (.exit 2))) (.seq (.block 3 (.seq (.reg [(.op (some 27) none (.mv (.t 0))), (.op (some 28) none (.mv (.t 6))), (.op (some 29) none (.iad 1
  (.t 27) (.t 28))), (.op (some 30) none (.ld (.t 29))), (.op (some 31) none (.bin .gtr (.t 30) (.c (.int .i64 0)))), (.op (some 32) none (.mv (.t 31))), (.op (some 33)
  (some (32, true)) (.mv (.t 0))), (.op (some 34) (some (32, true)) (.mv (.t 6))), (.op (some 35) (some (32, true)) (.iad 1 (.t 33) (.t 34))), (.op (some 36) (some (32,
  true)) (.ld (.t 35))), (.op (some 37) (some (32, true)) (.mv (.t 0))), (.op (some 38) (some (32, true)) (.mv (.t 4))), (.op (some 39) (some (32, true)) (.iad 1 (.t 37)
  (.t 38))), (.op (some 40) (some (32, true)) (.ld (.t 39))), (.op (some 41) (some (32, true)) (.bin .lss (.t 36) (.t 40))), (.op (some 42) (some (32, true)) (.mv (.t
  41))), (.op (some 43) (some (42, false)) (.mv (.t 0))), (.op (some 44) (some (42, false)) (.mv (.t 6))), (.op (some 45) (some (42, false)) (.iad 1 (.t 43) (.t 44))),
  (.op (some 46) (some (42, false)) (.ld (.t 45))), (.op (some 47) (some (42, false)) (.mv (.t 0))), (.op (some 48) (some (42, false)) (.mv (.t 4))), (.op (some 49)
  (some (42, false)) (.iad 1 (.t 47) (.t 48))), (.op (some 50) (some (42, false)) (.ld (.t 49))), (.op (some 51) (some (42, false)) (.bin .eql (.t 46) (.t 50))), (.op
  (some 52) (some (42, false)) (.mv (.t 51))), (.op (some 53) (some (52, true)) (.mv (.t 6))), (.op (some 54) (some (52, true)) (.mv (.t 4))), (.op (some 55) (some (52,
  true)) (.bin .lss (.t 53) (.t 54))), (.op (some 56) (some (42, false)) (.pick (.t 52) (.t 55) (.c (.bool false)))), (.op (some 57) (some (32, true)) (.pick (.t 42) (.c
  (.bool true)) (.t 56))), (.op (some 58) none (.pick (.t 32) (.t 57) (.c (.bool false))))]) (.cond (.t 58) (.reg [(.op (some 59) none (.mv (.t 5))), (.op (some 60) none
  (.mv (.t 0))), (.op (some 61) none (.mv (.t 6))), (.op (some 62) none (.iad 1 (.t 60) (.t 61))), (.op (some 63) none (.ld (.t 62))), (.op (some 64) none (.bin .sub (.c
  (.int .i64 11)) (.t 63))), (.op (some 65) none (.call 95 [(.t 64)])), (.op (some 66) none (.bin .add (.t 59) (.t 65))), (.op (some 5) none (.mv (.t 66)))]) .skip)))
  (.reg [(.op (some 25) none (.mv (.t 6))), (.op (some 26) none (.bin .add (.t 25) (.c (.int .i64 1)))), (.op (some 6) none (.mv (.t 26)))])))))) (.reg [(.op (some 67)
  none (.mv (.t 3))), (.op (some 68) none (.mv (.t 4))), (.op (some 69) none (.mv (.t 5))), (.op (some 70) none (.mv (.t 0))), (.op (some 71) none (.mv (.t 4))), (.op
  (some 72) none (.iad 1 (.t 70) (.t 71))), (.op (some 73) none (.ld (.t 72))), (.op (some 74) none (.bin .sub (.c (.int .i64 11)) (.t 73))), (.op (some 75) none (.call
  95 [(.t 74)])), (.op (some 76) none (.bin .quo (.t 69) (.t 75))), (.op (some 77) none (.iad 1 (.t 67) (.t 68))), (.op none none (.st (.t 77) (.t 76)))]))))) (.reg
  [(.op (some 14) none (.mv (.t 4))), (.op (some 15) none (.bin .add (.t 14) (.c (.int .i64 1)))), (.op (some 4) none (.mv (.t 15)))])))
def s70_0 (S : Sys) (e : Fe) (H : Heap) (Q : Kx) : Prop := run S (.lenL (.c (e 0))) [] H fun t12_6 H => run S (.bin .lss (.c (e 4)) (.c t12_6)) [] H fun t13_7 H => jn
  (sq (fun e9 H => jn (sq (fun e11 H => run S (.bin .add (.c (e11 4)) (.c (.int .i64 1))) [] H fun t15_12 H => Q .normal (upd (upd (upd e11 14 (e11 4)) 15 t15_12) 4
  t15_12) H) Q) fun Q10 => run S (.iad 1 (.c (e9 0)) (.c (e9 4))) [] H fun t18_13 H => run S (.ld (.c t18_13)) [] H fun t19_14 H => run S (.bin .eql (.c t19_14) (.c
  (.int .i64 0))) [] H fun t20_15 H => jn (blk 1 Q10) fun Q16 => jn (sq (fun e18 H => jn (sq (fun e20 H => run S (.iad 1 (.c (e20 0)) (.c (e20 4))) [] H fun t72_21 H =>
  run S (.ld (.c t72_21)) [] H fun t73_22 H => run S (.bin .sub (.c (.int .i64 11)) (.c t73_22)) [] H fun t74_23 H => run S (.call 95 [(.c t74_23)]) [] H fun t75_24 H =>
  run S (.bin .quo (.c (e20 5)) (.c t75_24)) [] H fun t76_25 H => run S (.iad 1 (.c (e20 3)) (.c (e20 4))) [] H fun t77_26 H => run S (.st (.c t77_26) (.c t76_25)) [] H
  fun _ H => Q16 .normal (upd (upd (upd (upd (upd (upd (upd (upd (upd (upd (upd e20 67 (e20 3)) 68 (e20 4)) 69 (e20 5)) 70 (e20 0)) 71 (e20 4)) 72 t72_21) 73 t73_22) 74
  t74_23) 75 t75_24) 76 t76_25) 77 t77_26) H) Q16) fun Q19 => jn (blk 2 Q19) fun Q27 => WL S b70_1 (upd (upd e18 5 (.int .i64 0)) 6 (.int .i64 0)) H Q27) Q16) fun Q17 =>
  cnd t20_15 (fun Q28 => Q28 (.exit 1) (upd (upd (upd (upd (upd e9 16 (e9 0)) 17 (e9 4)) 18 t18_13) 19 t19_14) 20 t20_15) H) (fun Q29 => Q29 .normal (upd (upd (upd (upd
  (upd e9 16 (e9 0)) 17 (e9 4)) 18 t18_13) 19 t19_14) 20 t20_15) H) Q17) Q) fun Q8 => cnd t13_7 (fun Q30 => Q30 .normal (upd (upd (upd (upd e 10 (e 4)) 11 (e 0)) 12
  t12_6) 13 t13_7) H) (fun Q31 => Q31 (.exit 0) (upd (upd (upd (upd e 10 (e 4)) 11 (e 0)) 12 t12_6) 13 t13_7) H) Q8
theorem h70_0 (S : Sys) (e : Fe) (H : Heap) (Q : Kx) : wpC S b70_0 e H Q = s70_0 S e H Q := by kernel_rfl
theorem l70_0 (S : Sys) {Q : Kx} (I : Nat → Fe → Heap → Prop) (d : Nat) {e0 : Fe} {H : Heap} (h0 : I d e0 H) (hr : ∀ (d : Nat) (e : Fe) (H : Heap), I d e H → s70_0 S e H
  (sq (fun e' H' => ∃ d', d' < d ∧ I d' e' H') Q)) : WL S b70_0 e0 H Q := WL_inv I d h0 fun d e H hi => (h70_0 S e H _).mpr (hr d e H hi)
theorem u70_0 (S : Sys) {Q : Kx} {e : Fe} {H : Heap} (h : s70_0 S e H (sq (fun e' H' => WL S b70_0 e' H' Q) Q)) : WL S b70_0 e H Q := WL_once ((h70_0 S e H _).mpr h)
def s70 (S : Sys) (a0 : Value) (H : Heap) (R : Kv) : Prop := run S (.lenL (.c a0)) [] H fun t8_1 H => run S (.mks 3 [(.int .i64 0)] 8 (.c t8_1) (.c t8_1)) [] H fun t9_2
  H => jn (sq (fun e4 H => R (e4 3) H) (fn [(.t 2)] R)) fun Q3 => jn (blk 0 Q3) fun Q5 => WL S b70_0 (upd (upd (upd (upd (upd (upd (Env.get [a0]) 2 (.slice none 0 0)) 7
  a0) 8 t8_1) 9 t9_2) 3 t9_2) 4 (.int .i64 0)) H Q5
theorem h70 (S : Sys) (a0 : Value) (H : Heap) (R : Kv) : wpC S k70.body (Env.get [a0]) H (fn [(.t 2)] R) = s70 S a0 H R := by kernel_rfl
theorem w70 {S : Sys} (hR : S.R 70 = none) (hF : S.F 70 = some k70) (a0 : Value) {H : Heap} {R : Kv} (h : s70 S a0 H R) : Wf S 70 [a0] H R := Wf_sh hR hF ((h70 S a0 H
  R).mpr h)
def b71_0 : KCode := (.seq (.reg [(.op (some 27) none (.bin .lss (.t 26) (.t 25)))]) (.seq (.cond (.t 27) .skip (.exit 0)) (.seq (.block 1 (.seq (.reg [(.op (some 28)
  none (.mv (.t 26))), (.op (some 29) none (.iad 1 (.t 24) (.t 26))), (.op (some 30) none (.ld (.t 29))), (.op (some 7) none (.mv (.t 28))), (.op (some 8) none (.mv (.t
  30)))]) (.seq (.seq (.reg [(.op (some 31) none (.mv (.t 8))), (.op (some 32) none (.bin .gtr (.t 31) (.c (.int .i64 0)))), (.op (some 33) none (.mv (.t 32))), (.op
  (some 34) (some (33, true)) (.mv (.t 1))), (.op (some 35) (some (33, true)) (.mv (.t 7))), (.op (some 36) (some (33, true)) (.iad 1 (.t 34) (.t 35))), (.op (some 37)
  (some (33, true)) (.ld (.t 36))), (.op (some 38) (some (33, true)) (.bin .eql (.t 37) (.c (.int .i64 0)))), (.op (some 39) none (.pick (.t 33) (.t 38) (.c (.bool
  false))))]) (.cond (.t 39) (.seq (.reg [(.op (some 4) none (.mv (.c (.int .i64 0)))), (.op (some 5) none (.mv (.c (.bool false))))]) .ret) .skip)) (.reg [(.op (some
  40) none (.mv (.t 6))), (.op (some 41) none (.mv (.t 8))), (.op (some 42) none (.mv (.t 1))), (.op (some 43) none (.mv (.t 7))), (.op (some 44) none (.iad 1 (.t 42)
  (.t 43))), (.op (some 45) none (.ld (.t 44))), (.op (some 46) none (.bin .mul (.t 41) (.t 45))), (.op (some 47) none (.bin .add (.t 40) (.t 46))), (.op (some 6) none
  (.mv (.t 47)))])))) (.reg [(.op (some 48) none (.bin .add (.t 26) (.c (.int .i64 1)))), (.op (some 26) none (.mv (.t 48)))]))))
def s71_0 (S : Sys) (e : Fe) (H : Heap) (Q : Kx) : Prop := run S (.bin .lss (.c (e 26)) (.c (e 25))) [] H fun t27_21 H => jn (sq (fun e23 H => jn (sq (fun e25 H => run S
  (.bin .add (.c (e25 26)) (.c (.int .i64 1))) [] H fun t48_26 H => Q .normal (upd (upd e25 48 t48_26) 26 t48_26) H) Q) fun Q24 => run S (.iad 1 (.c (e23 24)) (.c (e23
  26))) [] H fun t29_27 H => run S (.ld (.c t29_27)) [] H fun t30_28 H => run S (.bin .gtr (.c t30_28) (.c (.int .i64 0))) [] H fun t32_29 H => gd t32_29 true (run S
  (.mv (.c (e23 1))) [] H) H fun t34_30 H => gd t32_29 true (run S (.mv (.c (e23 26))) [] H) H fun t35_31 H => gd t32_29 true (run S (.iad 1 (.c t34_30) (.c t35_31)) []
  H) H fun t36_32 H => gd t32_29 true (run S (.ld (.c t36_32)) [] H) H fun t37_33 H => gd t32_29 true (run S (.bin .eql (.c t37_33) (.c (.int .i64 0))) [] H) H fun
  t38_34 H => run S (.pick (.c t32_29) (.c t38_34) (.c (.bool false))) [] H fun t39_35 H => jn (blk 1 Q24) fun Q36 => jn (sq (fun e38 H => run S (.iad 1 (.c (e38 1)) (.c
  (e38 7))) [] H fun t44_39 H => run S (.ld (.c t44_39)) [] H fun t45_40 H => run S (.bin .mul (.c (e38 8)) (.c t45_40)) [] H fun t46_41 H => run S (.bin .add (.c (e38
  6)) (.c t46_41)) [] H fun t47_42 H => Q36 .normal (upd (upd (upd (upd (upd (upd (upd (upd (upd e38 40 (e38 6)) 41 (e38 8)) 42 (e38 1)) 43 (e38 7)) 44 t44_39) 45
  t45_40) 46 t46_41) 47 t47_42) 6 t47_42) H) Q36) fun Q37 => cnd t39_35 (fun Q43 => Q43 .ret (upd (upd (upd (upd (upd (upd (upd (upd (upd (upd (upd (upd (upd (upd (upd
  (upd e23 28 (e23 26)) 29 t29_27) 30 t30_28) 7 (e23 26)) 8 t30_28) 31 t30_28) 32 t32_29) 33 t32_29) 34 t34_30) 35 t35_31) 36 t36_32) 37 t37_33) 38 t38_34) 39 t39_35) 4
  (.int .i64 0)) 5 (.bool false)) H) (fun Q44 => Q44 .normal (upd (upd (upd (upd (upd (upd (upd (upd (upd (upd (upd (upd (upd (upd e23 28 (e23 26)) 29 t29_27) 30 t30_28)
  7 (e23 26)) 8 t30_28) 31 t30_28) 32 t32_29) 33 t32_29) 34 t34_30) 35 t35_31) 36 t36_32) 37 t37_33) 38 t38_34) 39 t39_35) H) Q37) Q) fun Q22 => cnd t27_21 (fun Q45 =>
  Q45 .normal (upd e 27 t27_21) H) (fun Q46 => Q46 (.exit 0) (upd e 27 t27_21) H) Q22
theorem h71_0 (S : Sys) (e : Fe) (H : Heap) (Q : Kx) : wpC S b71_0 e H Q = s71_0 S e H Q := by kernel_rfl
theorem l71_0 (S : Sys) {Q : Kx} (I : Nat → Fe → Heap → Prop) (d : Nat) {e0 : Fe} {H : Heap} (h0 : I d e0 H) (hr : ∀ (d : Nat) (e : Fe) (H : Heap), I d e H → s71_0 S e H
  (sq (fun e' H' => ∃ d', d' < d ∧ I d' e' H') Q)) : WL S b71_0 e0 H Q := WL_inv I d h0 fun d e H hi => (h71_0 S e H _).mpr (hr d e H hi)
theorem u71_0 (S : Sys) {Q : Kx} {e : Fe} {H : Heap} (h : s71_0 S e H (sq (fun e' H' => WL S b71_0 e' H' Q) Q)) : WL S b71_0 e H Q := WL_once ((h71_0 S e H _).mpr h)
def s71 (S : Sys) (a0 a1 : Value) (H : Heap) (R : Kv) : Prop := run S (.call 131 [(.c a0)]) [] H fun t10_1 H => run S (.un .not (.c t10_1)) [] H fun t11_2 H => gd t11_2
  false (run S (.mv (.c a1)) [] H) H fun t13_3 H => gd t11_2 false (run S (.lenL (.c t13_3)) [] H) H fun t14_4 H => gd t11_2 false (run S (.mv (.c a0)) [] H) H fun t15_5
  H => gd t11_2 false (run S (.lenL (.c t15_5)) [] H) H fun t16_6 H => gd t11_2 false (run S (.bin .lss (.c t14_4) (.c t16_6)) [] H) H fun t17_7 H => run S (.pick (.c
  t11_2) (.c (.bool true)) (.c t17_7)) [] H fun t18_8 H => gd t18_8 false (run S (.mv (.c a1)) [] H) H fun t20_9 H => gd t18_8 false (run S (.call 130 [(.c t20_9)]) []
  H) H fun t21_10 H => gd t18_8 false (run S (.un .not (.c t21_10)) [] H) H fun t22_11 H => run S (.pick (.c t18_8) (.c (.bool true)) (.c t22_11)) [] H fun t23_12 H =>
  jn (sq (fun e14 H => run S (.lenL (.c (e14 0))) [] H fun t25_15 H => jn (sq (fun e17 H => R (tup [(e17 6), (.bool true)]) H) (fn [(.t 4), (.t 5)] R)) fun Q16 => jn
  (blk 0 Q16) fun Q18 => WL S b71_0 (upd (upd (upd (upd e14 6 (.int .i64 0)) 24 (e14 0)) 25 t25_15) 26 (.int .i64 0)) H Q18) (fn [(.t 4), (.t 5)] R)) fun Q13 => cnd
  t23_12 (fun Q19 => Q19 .ret (upd (upd (upd (upd (upd (upd (upd (upd (upd (upd (upd (upd (upd (upd (upd (upd (upd (upd (upd (Env.get [a0, a1]) 4 (.int .i64 0)) 5 (.bool
  false)) 9 a0) 10 t10_1) 11 t11_2) 12 t11_2) 13 t13_3) 14 t14_4) 15 t15_5) 16 t16_6) 17 t17_7) 18 t18_8) 19 t18_8) 20 t20_9) 21 t21_10) 22 t22_11) 23 t23_12) 4 (.int
  .i64 0)) 5 (.bool false)) H) (fun Q20 => Q20 .normal (upd (upd (upd (upd (upd (upd (upd (upd (upd (upd (upd (upd (upd (upd (upd (upd (upd (Env.get [a0, a1]) 4 (.int
  .i64 0)) 5 (.bool false)) 9 a0) 10 t10_1) 11 t11_2) 12 t11_2) 13 t13_3) 14 t14_4) 15 t15_5) 16 t16_6) 17 t17_7) 18 t18_8) 19 t18_8) 20 t20_9) 21 t21_10) 22 t22_11) 23
  t23_12) H) Q13
theorem h71 (S : Sys) (a0 a1 : Value) (H : Heap) (R : Kv) : wpC S k71.body (Env.get [a0, a1]) H (fn [(.t 4), (.t 5)] R) = s71 S a0 a1 H R := by kernel_rfl
theorem w71 {S : Sys} (hR : S.R 71 = none) (hF : S.F 71 = some k71) (a0 a1 : Value) {H : Heap} {R : Kv} (h : s71 S a0 a1 H R) : Wf S 71 [a0, a1] H R := Wf_sh hR hF ((h71
  S a0 a1 H R).mpr h)
def b72_0 : KCode := (.seq (.seq (.reg [(.op (some 5) none (.mv (.t 4))), (.op (some 6) none (.mv (.t 0))), (.op (some 7) none (.lenL (.t 6))), (.op (some 8) none (.bin
  .lss (.t 5) (.t 7)))]) (.cond (.t 8) .skip (.exit 0))) (.seq (.block 1 (.seq (.seq (.reg [(.op (some 11) none (.mv (.t 0))), (.op (some 12) none (.mv (.t 4))), (.op
  (some 13) none (.iad 1 (.t 11) (.t 12))), (.op (some 14) none (.ld (.t 13))), (.op (some 15) none (.bin .lss (.t 14) (.c (.int .i64 0)))), (.op (some 16) none (.mv (.t
  15))), (.op (some 17) (some (16, false)) (.mv (.t 0))), (.op (some 18) (some (16, false)) (.mv (.t 4))), (.op (some 19) (some (16, false)) (.iad 1 (.t 17) (.t 18))),
  (.op (some 20) (some (16, false)) (.ld (.t 19))), (.op (some 21) (some (16, false)) (.bin .gtr (.t 20) (.c (.int .i64 1048576)))), (.op (some 22) none (.pick (.t 16)
  (.c (.bool true)) (.t 21)))]) (.cond (.t 22) (.seq (.reg [(.op (some 2) none (.mv (.c (.bool false))))]) .ret) .skip)) (.reg [(.op (some 23) none (.mv (.t 3))), (.op
  (some 24) none (.mv (.t 23))), (.op (some 25) (some (24, false)) (.mv (.t 0))), (.op (some 26) (some (24, false)) (.mv (.t 4))), (.op (some 27) (some (24, false))
  (.iad 1 (.t 25) (.t 26))), (.op (some 28) (some (24, false)) (.ld (.t 27))), (.op (some 29) (some (24, false)) (.bin .gtr (.t 28) (.c (.int .i64 0)))), (.op (some 30)
  none (.pick (.t 24) (.c (.bool true)) (.t 29))), (.op (some 3) none (.mv (.t 30)))]))) (.reg [(.op (some 9) none (.mv (.t 4))), (.op (some 10) none (.bin .add (.t 9)
  (.c (.int .i64 1)))), (.op (some 4) none (.mv (.t 10)))])))
def s72_0 (S : Sys) (e : Fe) (H : Heap) (Q : Kx) : Prop := run S (.lenL (.c (e 0))) [] H fun t7_8 H => run S (.bin .lss (.c (e 4)) (.c t7_8)) [] H fun t8_9 H => jn (sq
  (fun e11 H => jn (sq (fun e13 H => run S (.bin .add (.c (e13 4)) (.c (.int .i64 1))) [] H fun t10_14 H => Q .normal (upd (upd (upd e13 9 (e13 4)) 10 t10_14) 4 t10_14)
  H) Q) fun Q12 => run S (.iad 1 (.c (e11 0)) (.c (e11 4))) [] H fun t13_15 H => run S (.ld (.c t13_15)) [] H fun t14_16 H => run S (.bin .lss (.c t14_16) (.c (.int .i64
  0))) [] H fun t15_17 H => gd t15_17 false (run S (.mv (.c (e11 0))) [] H) H fun t17_18 H => gd t15_17 false (run S (.mv (.c (e11 4))) [] H) H fun t18_19 H => gd t15_17
  false (run S (.iad 1 (.c t17_18) (.c t18_19)) [] H) H fun t19_20 H => gd t15_17 false (run S (.ld (.c t19_20)) [] H) H fun t20_21 H => gd t15_17 false (run S (.bin
  .gtr (.c t20_21) (.c (.int .i64 1048576))) [] H) H fun t21_22 H => run S (.pick (.c t15_17) (.c (.bool true)) (.c t21_22)) [] H fun t22_23 H => jn (blk 1 Q12) fun Q24
  => jn (sq (fun e26 H => gd (e26 3) false (run S (.mv (.c (e26 0))) [] H) H fun t25_27 H => gd (e26 3) false (run S (.mv (.c (e26 4))) [] H) H fun t26_28 H => gd (e26
  3) false (run S (.iad 1 (.c t25_27) (.c t26_28)) [] H) H fun t27_29 H => gd (e26 3) false (run S (.ld (.c t27_29)) [] H) H fun t28_30 H => gd (e26 3) false (run S
  (.bin .gtr (.c t28_30) (.c (.int .i64 0))) [] H) H fun t29_31 H => run S (.pick (.c (e26 3)) (.c (.bool true)) (.c t29_31)) [] H fun t30_32 H => Q24 .normal (upd (upd
  (upd (upd (upd (upd (upd (upd (upd e26 23 (e26 3)) 24 (e26 3)) 25 t25_27) 26 t26_28) 27 t27_29) 28 t28_30) 29 t29_31) 30 t30_32) 3 t30_32) H) Q24) fun Q25 => cnd
  t22_23 (fun Q33 => Q33 .ret (upd (upd (upd (upd (upd (upd (upd (upd (upd (upd (upd (upd (upd e11 11 (e11 0)) 12 (e11 4)) 13 t13_15) 14 t14_16) 15 t15_17) 16 t15_17) 17
  t17_18) 18 t18_19) 19 t19_20) 20 t20_21) 21 t21_22) 22 t22_23) 2 (.bool false)) H) (fun Q34 => Q34 .normal (upd (upd (upd (upd (upd (upd (upd (upd (upd (upd (upd (upd
  e11 11 (e11 0)) 12 (e11 4)) 13 t13_15) 14 t14_16) 15 t15_17) 16 t15_17) 17 t17_18) 18 t18_19) 19 t19_20) 20 t20_21) 21 t21_22) 22 t22_23) H) Q25) Q) fun Q10 => cnd
  t8_9 (fun Q35 => Q35 .normal (upd (upd (upd (upd e 5 (e 4)) 6 (e 0)) 7 t7_8) 8 t8_9) H) (fun Q36 => Q36 (.exit 0) (upd (upd (upd (upd e 5 (e 4)) 6 (e 0)) 7 t7_8) 8
  t8_9) H) Q10
theorem h72_0 (S : Sys) (e : Fe) (H : Heap) (Q : Kx) : wpC S b72_0 e H Q = s72_0 S e H Q := by kernel_rfl
theorem l72_0 (S : Sys) {Q : Kx} (I : Nat → Fe → Heap → Prop) (d : Nat) {e0 : Fe} {H : Heap} (h0 : I d e0 H) (hr : ∀ (d : Nat) (e : Fe) (H : Heap), I d e H → s72_0 S e H
  (sq (fun e' H' => ∃ d', d' < d ∧ I d' e' H') Q)) : WL S b72_0 e0 H Q := WL_inv I d h0 fun d e H hi => (h72_0 S e H _).mpr (hr d e H hi)
theorem u72_0 (S : Sys) {Q : Kx} {e : Fe} {H : Heap} (h : s72_0 S e H (sq (fun e' H' => WL S b72_0 e' H' Q) Q)) : WL S b72_0 e H Q := WL_once ((h72_0 S e H _).mpr h)
def s72 (S : Sys) (a0 : Value) (H : Heap) (R : Kv) : Prop := jn (sq (fun e2 H => gd (e2 3) true (run S (.mv (.c (e2 0))) [] H) H fun t33_3 H => gd (e2 3) true (run S
  (.lenL (.c t33_3)) [] H) H fun t34_4 H => gd (e2 3) true (run S (.bin .leq (.c t34_4) (.c (.int .i64 256))) [] H) H fun t35_5 H => run S (.pick (.c (e2 3)) (.c t35_5)
  (.c (.bool false))) [] H fun t36_6 H => R t36_6 H) (fn [(.t 2)] R)) fun Q1 => jn (blk 0 Q1) fun Q7 => WL S b72_0 (upd (upd (upd (Env.get [a0]) 2 (.bool false)) 3
  (.bool false)) 4 (.int .i64 0)) H Q7
theorem h72 (S : Sys) (a0 : Value) (H : Heap) (R : Kv) : wpC S k72.body (Env.get [a0]) H (fn [(.t 2)] R) = s72 S a0 H R := by kernel_rfl
theorem w72 {S : Sys} (hR : S.R 72 = none) (hF : S.F 72 = some k72) (a0 : Value) {H : Heap} {R : Kv} (h : s72 S a0 H R) : Wf S 72 [a0] H R := Wf_sh hR hF ((h72 S a0 H
  R).mpr h)
def b73_0 : KCode := (.seq (.seq (.reg [(.op (some 4) none (.mv (.t 3))), (.op (some 5) none (.mv (.t 0))), (.op (some 6) none (.lenL (.t 5))), (.op (some 7) none (.bin
  .lss (.t 4) (.t 6)))]) (.cond (.t 7) .skip (.exit 0))) (.seq (.block 1 (.seq (.reg [(.op (some 10) none (.mv (.t 0))), (.op (some 11) none (.mv (.t 3))), (.op (some
  12) none (.iad 1 (.t 10) (.t 11))), (.op (some 13) none (.ld (.t 12))), (.op (some 14) none (.bin .lss (.t 13) (.c (.int .i64 0)))), (.op (some 15) none (.mv (.t
  14))), (.op (some 16) (some (15, false)) (.mv (.t 0))), (.op (some 17) (some (15, false)) (.mv (.t 3))), (.op (some 18) (some (15, false)) (.iad 1 (.t 16) (.t 17))),
  (.op (some 19) (some (15, false)) (.ld (.t 18))), (.op (some 20) (some (15, false)) (.bin .gtr (.t 19) (.c (.int .i64 11)))), (.op (some 21) none (.pick (.t 15) (.c
  (.bool true)) (.t 20)))]) (.cond (.t 21) (.seq (.reg [(.op (some 2) none (.mv (.c (.bool false))))]) .ret) .skip))) (.reg [(.op (some 8) none (.mv (.t 3))), (.op (some
  9) none (.bin .add (.t 8) (.c (.int .i64 1)))), (.op (some 3) none (.mv (.t 9)))])))
def s73_0 (S : Sys) (e : Fe) (H : Heap) (Q : Kx) : Prop := run S (.lenL (.c (e 0))) [] H fun t6_6 H => run S (.bin .lss (.c (e 3)) (.c t6_6)) [] H fun t7_7 H => jn (sq
  (fun e9 H => jn (sq (fun e11 H => run S (.bin .add (.c (e11 3)) (.c (.int .i64 1))) [] H fun t9_12 H => Q .normal (upd (upd (upd e11 8 (e11 3)) 9 t9_12) 3 t9_12) H) Q)
  fun Q10 => run S (.iad 1 (.c (e9 0)) (.c (e9 3))) [] H fun t12_13 H => run S (.ld (.c t12_13)) [] H fun t13_14 H => run S (.bin .lss (.c t13_14) (.c (.int .i64 0))) []
  H fun t14_15 H => gd t14_15 false (run S (.mv (.c (e9 0))) [] H) H fun t16_16 H => gd t14_15 false (run S (.mv (.c (e9 3))) [] H) H fun t17_17 H => gd t14_15 false
  (run S (.iad 1 (.c t16_16) (.c t17_17)) [] H) H fun t18_18 H => gd t14_15 false (run S (.ld (.c t18_18)) [] H) H fun t19_19 H => gd t14_15 false (run S (.bin .gtr (.c
  t19_19) (.c (.int .i64 11))) [] H) H fun t20_20 H => run S (.pick (.c t14_15) (.c (.bool true)) (.c t20_20)) [] H fun t21_21 H => jn (blk 1 Q10) fun Q22 => cnd t21_21
  (fun Q23 => Q23 .ret (upd (upd (upd (upd (upd (upd (upd (upd (upd (upd (upd (upd (upd e9 10 (e9 0)) 11 (e9 3)) 12 t12_13) 13 t13_14) 14 t14_15) 15 t14_15) 16 t16_16)
  17 t17_17) 18 t18_18) 19 t19_19) 20 t20_20) 21 t21_21) 2 (.bool false)) H) (fun Q24 => Q24 .normal (upd (upd (upd (upd (upd (upd (upd (upd (upd (upd (upd (upd e9 10
  (e9 0)) 11 (e9 3)) 12 t12_13) 13 t13_14) 14 t14_15) 15 t14_15) 16 t16_16) 17 t17_17) 18 t18_18) 19 t19_19) 20 t20_20) 21 t21_21) H) Q22) Q) fun Q8 => cnd t7_7 (fun Q25
  => Q25 .normal (upd (upd (upd (upd e 4 (e 3)) 5 (e 0)) 6 t6_6) 7 t7_7) H) (fun Q26 => Q26 (.exit 0) (upd (upd (upd (upd e 4 (e 3)) 5 (e 0)) 6 t6_6) 7 t7_7) H) Q8
theorem h73_0 (S : Sys) (e : Fe) (H : Heap) (Q : Kx) : wpC S b73_0 e H Q = s73_0 S e H Q := by kernel_rfl
theorem l73_0 (S : Sys) {Q : Kx} (I : Nat → Fe → Heap → Prop) (d : Nat) {e0 : Fe} {H : Heap} (h0 : I d e0 H) (hr : ∀ (d : Nat) (e : Fe) (H : Heap), I d e H → s73_0 S e H
  (sq (fun e' H' => ∃ d', d' < d ∧ I d' e' H') Q)) : WL S b73_0 e0 H Q := WL_inv I d h0 fun d e H hi => (h73_0 S e H _).mpr (hr d e H hi)
theorem u73_0 (S : Sys) {Q : Kx} {e : Fe} {H : Heap} (h : s73_0 S e H (sq (fun e' H' => WL S b73_0 e' H' Q) Q)) : WL S b73_0 e H Q := WL_once ((h73_0 S e H _).mpr h)
def s73 (S : Sys) (a0 : Value) (H : Heap) (R : Kv) : Prop := jn (sq (fun e2 H => run S (.lenL (.c (e2 0))) [] H fun t23_3 H => run S (.bin .leq (.c t23_3) (.c (.int .i64
  256))) [] H fun t24_4 H => R t24_4 H) (fn [(.t 2)] R)) fun Q1 => jn (blk 0 Q1) fun Q5 => WL S b73_0 (upd (upd (Env.get [a0]) 2 (.bool false)) 3 (.int .i64 0)) H Q5
theorem h73 (S : Sys) (a0 : Value) (H : Heap) (R : Kv) : wpC S k73.body (Env.get [a0]) H (fn [(.t 2)] R) = s73 S a0 H R := by kernel_rfl
theorem w73 {S : Sys} (hR : S.R 73 = none) (hF : S.F 73 = some k73) (a0 : Value) {H : Heap} {R : Kv} (h : s73 S a0 H R) : Wf S 73 [a0] H R := Wf_sh hR hF ((h73 S a0 H
  R).mpr h)
def b74_0 : KCode := (.seq (.seq (.reg [(.op (some 8) none (.mv (.t 7))), (.op (some 9) none (.mv (.t 0))), (.op (some 10) none (.lenL (.t 9))), (.op (some 11) none
  (.bin .lss (.t 8) (.t 10)))]) (.cond (.t 11) .skip (.exit 0))) (.seq (.block 1 (.seq (.seq (.reg [(.op (some 14) none (.mv (.t 0))), (.op (some 15) none (.mv (.t 7))),
  (.op (some 16) none (.iad 1 (.t 14) (.t 15))), (.op (some 17) none (.ld (.t 16))), (.op (some 18) none (.bin .gtr (.t 17) (.c (.int .i64 0)))), (.op (some 19) none
  (.mv (.t 18))), (.op (some 20) (some (19, true)) (.mv (.t 1))), (.op (some 21) (some (19, true)) (.mv (.t 7))), (.op (some 22) (some (19, true)) (.iad 1 (.t 20) (.t
  21))), (.op (some 23) (some (19, true)) (.ld (.t 22))), (.op (some 24) (some (19, true)) (.bin .eql (.t 23) (.c (.int .i64 0)))), (.op (some 25) none (.pick (.t 19)
  (.t 24) (.c (.bool false))))]) (.cond (.t 25) (.seq (.reg [(.op (some 4) none (.mv (.c (.int .i64 0)))), (.op (some 5) none (.mv (.c (.bool false))))]) .ret) .skip))
  (.reg [(.op (some 26) none (.mv (.t 6))), (.op (some 27) none (.mv (.t 0))), (.op (some 28) none (.mv (.t 7))), (.op (some 29) none (.iad 1 (.t 27) (.t 28))), (.op
  (some 30) none (.ld (.t 29))), (.op (some 31) none (.mv (.t 1))), (.op (some 32) none (.mv (.t 7))), (.op (some 33) none (.iad 1 (.t 31) (.t 32))), (.op (some 34) none
  (.ld (.t 33))), (.op (some 35) none (.bin .mul (.t 30) (.t 34))), (.op (some 36) none (.bin .add (.t 26) (.t 35))), (.op (some 6) none (.mv (.t 36)))]))) (.reg [(.op
  (some 12) none (.mv (.t 7))), (.op (some 13) none (.bin .add (.t 12) (.c (.int .i64 1)))), (.op (some 7) none (.mv (.t 13)))])))
def s74_0 (S : Sys) (e : Fe) (H : Heap) (Q : Kx) : Prop := run S (.lenL (.c (e 0))) [] H fun t10_4 H => run S (.bin .lss (.c (e 7)) (.c t10_4)) [] H fun t11_5 H => jn
  (sq (fun e7 H => jn (sq (fun e9 H => run S (.bin .add (.c (e9 7)) (.c (.int .i64 1))) [] H fun t13_10 H => Q .normal (upd (upd (upd e9 12 (e9 7)) 13 t13_10) 7 t13_10)
  H) Q) fun Q8 => run S (.iad 1 (.c (e7 0)) (.c (e7 7))) [] H fun t16_11 H => run S (.ld (.c t16_11)) [] H fun t17_12 H => run S (.bin .gtr (.c t17_12) (.c (.int .i64
  0))) [] H fun t18_13 H => gd t18_13 true (run S (.mv (.c (e7 1))) [] H) H fun t20_14 H => gd t18_13 true (run S (.mv (.c (e7 7))) [] H) H fun t21_15 H => gd t18_13
  true (run S (.iad 1 (.c t20_14) (.c t21_15)) [] H) H fun t22_16 H => gd t18_13 true (run S (.ld (.c t22_16)) [] H) H fun t23_17 H => gd t18_13 true (run S (.bin .eql
  (.c t23_17) (.c (.int .i64 0))) [] H) H fun t24_18 H => run S (.pick (.c t18_13) (.c t24_18) (.c (.bool false))) [] H fun t25_19 H => jn (blk 1 Q8) fun Q20 => jn (sq
  (fun e22 H => run S (.iad 1 (.c (e22 0)) (.c (e22 7))) [] H fun t29_23 H => run S (.ld (.c t29_23)) [] H fun t30_24 H => run S (.iad 1 (.c (e22 1)) (.c (e22 7))) [] H
  fun t33_25 H => run S (.ld (.c t33_25)) [] H fun t34_26 H => run S (.bin .mul (.c t30_24) (.c t34_26)) [] H fun t35_27 H => run S (.bin .add (.c (e22 6)) (.c t35_27))
  [] H fun t36_28 H => Q20 .normal (upd (upd (upd (upd (upd (upd (upd (upd (upd (upd (upd (upd e22 26 (e22 6)) 27 (e22 0)) 28 (e22 7)) 29 t29_23) 30 t30_24) 31 (e22 1))
  32 (e22 7)) 33 t33_25) 34 t34_26) 35 t35_27) 36 t36_28) 6 t36_28) H) Q20) fun Q21 => cnd t25_19 (fun Q29 => Q29 .ret (upd (upd (upd (upd (upd (upd (upd (upd (upd (upd
  (upd (upd (upd (upd e7 14 (e7 0)) 15 (e7 7)) 16 t16_11) 17 t17_12) 18 t18_13) 19 t18_13) 20 t20_14) 21 t21_15) 22 t22_16) 23 t23_17) 24 t24_18) 25 t25_19) 4 (.int .i64
  0)) 5 (.bool false)) H) (fun Q30 => Q30 .normal (upd (upd (upd (upd (upd (upd (upd (upd (upd (upd (upd (upd e7 14 (e7 0)) 15 (e7 7)) 16 t16_11) 17 t17_12) 18 t18_13)
  19 t18_13) 20 t20_14) 21 t21_15) 22 t22_16) 23 t23_17) 24 t24_18) 25 t25_19) H) Q21) Q) fun Q6 => cnd t11_5 (fun Q31 => Q31 .normal (upd (upd (upd (upd e 8 (e 7)) 9 (e
  0)) 10 t10_4) 11 t11_5) H) (fun Q32 => Q32 (.exit 0) (upd (upd (upd (upd e 8 (e 7)) 9 (e 0)) 10 t10_4) 11 t11_5) H) Q6
theorem h74_0 (S : Sys) (e : Fe) (H : Heap) (Q : Kx) : wpC S b74_0 e H Q = s74_0 S e H Q := by kernel_rfl
theorem l74_0 (S : Sys) {Q : Kx} (I : Nat → Fe → Heap → Prop) (d : Nat) {e0 : Fe} {H : Heap} (h0 : I d e0 H) (hr : ∀ (d : Nat) (e : Fe) (H : Heap), I d e H → s74_0 S e H
  (sq (fun e' H' => ∃ d', d' < d ∧ I d' e' H') Q)) : WL S b74_0 e0 H Q := WL_inv I d h0 fun d e H hi => (h74_0 S e H _).mpr (hr d e H hi)
theorem u74_0 (S : Sys) {Q : Kx} {e : Fe} {H : Heap} (h : s74_0 S e H (sq (fun e' H' => WL S b74_0 e' H' Q) Q)) : WL S b74_0 e H Q := WL_once ((h74_0 S e H _).mpr h)
def s74 (S : Sys) (a0 a1 : Value) (H : Heap) (R : Kv) : Prop := jn (sq (fun e2 H => R (tup [(e2 6), (.bool true)]) H) (fn [(.t 4), (.t 5)] R)) fun Q1 => jn (blk 0 Q1)
  fun Q3 => WL S b74_0 (upd (upd (upd (upd (Env.get [a0, a1]) 4 (.int .i64 0)) 5 (.bool false)) 6 (.int .i64 0)) 7 (.int .i64 0)) H Q3
theorem h74 (S : Sys) (a0 a1 : Value) (H : Heap) (R : Kv) : wpC S k74.body (Env.get [a0, a1]) H (fn [(.t 4), (.t 5)] R) = s74 S a0 a1 H R := by kernel_rfl
theorem w74 {S : Sys} (hR : S.R 74 = none) (hF : S.F 74 = some k74) (a0 a1 : Value) {H : Heap} {R : Kv} (h : s74 S a0 a1 H R) : Wf S 74 [a0, a1] H R := Wf_sh hR hF ((h74
  S a0 a1 H R).mpr h)
def b95_0 : KCode := (.seq (.seq (.reg [(.op (some 5) none (.mv (.t 4))), (.op (some 6) none (.mv (.t 0))), (.op (some 7) none (.bin .lss (.t 5) (.t 6)))]) (.cond (.t 7)
  .skip (.exit 0))) (.seq (.block 1 (.reg [(.op (some 10) none (.mv (.t 3))), (.op (some 11) none (.bin .mul (.t 10) (.c (.int .i64 2)))), (.op (some 3) none (.mv (.t
  11)))])) (.reg [(.op (some 8) none (.mv (.t 4))), (.op (some 9) none (.bin .add (.t 8) (.c (.int .i64 1)))), (.op (some 4) none (.mv (.t 9)))])))
def s95_0 (S : Sys) (e : Fe) (H : Heap) (Q : Kx) : Prop := run S (.bin .lss (.c (e 4)) (.c (e 0))) [] H fun t7_4 H => jn (sq (fun e6 H => jn (sq (fun e8 H => run S (.bin
  .add (.c (e8 4)) (.c (.int .i64 1))) [] H fun t9_9 H => Q .normal (upd (upd (upd e8 8 (e8 4)) 9 t9_9) 4 t9_9) H) Q) fun Q7 => run S (.bin .mul (.c (e6 3)) (.c (.int
  .i64 2))) [] H fun t11_10 H => Q7 .normal (upd (upd (upd e6 10 (e6 3)) 11 t11_10) 3 t11_10) H) Q) fun Q5 => cnd t7_4 (fun Q11 => Q11 .normal (upd (upd (upd e 5 (e 4))
  6 (e 0)) 7 t7_4) H) (fun Q12 => Q12 (.exit 0) (upd (upd (upd e 5 (e 4)) 6 (e 0)) 7 t7_4) H) Q5
theorem h95_0 (S : Sys) (e : Fe) (H : Heap) (Q : Kx) : wpC S b95_0 e H Q = s95_0 S e H Q := by kernel_rfl
theorem l95_0 (S : Sys) {Q : Kx} (I : Nat → Fe → Heap → Prop) (d : Nat) {e0 : Fe} {H : Heap} (h0 : I d e0 H) (hr : ∀ (d : Nat) (e : Fe) (H : Heap), I d e H → s95_0 S e H
  (sq (fun e' H' => ∃ d', d' < d ∧ I d' e' H') Q)) : WL S b95_0 e0 H Q := WL_inv I d h0 fun d e H hi => (h95_0 S e H _).mpr (hr d e H hi)
theorem u95_0 (S : Sys) {Q : Kx} {e : Fe} {H : Heap} (h : s95_0 S e H (sq (fun e' H' => WL S b95_0 e' H' Q) Q)) : WL S b95_0 e H Q := WL_once ((h95_0 S e H _).mpr h)
def s95 (S : Sys) (a0 : Value) (H : Heap) (R : Kv) : Prop := jn (sq (fun e2 H => R (e2 3) H) (fn [(.t 2)] R)) fun Q1 => jn (blk 0 Q1) fun Q3 => WL S b95_0 (upd (upd (upd
  (Env.get [a0]) 2 (.int .i64 0)) 3 (.int .i64 1)) 4 (.int .i64 0)) H Q3
theorem h95 (S : Sys) (a0 : Value) (H : Heap) (R : Kv) : wpC S k95.body (Env.get [a0]) H (fn [(.t 2)] R) = s95 S a0 H R := by kernel_rfl
theorem w95 {S : Sys} (hR : S.R 95 = none) (hF : S.F 95 = some k95) (a0 : Value) {H : Heap} {R : Kv} (h : s95 S a0 H R) : Wf S 95 [a0] H R := Wf_sh hR hF ((h95 S a0 H
  R).mpr h)
def b130_0 : KCode := (.seq (.reg [(.op (some 8) none (.bin .lss (.t 7) (.t 6)))]) (.seq (.cond (.t 8) .skip (.exit 0)) (.seq (.block 1 (.seq (.reg [(.op (some 9) none
  (.iad 1 (.t 5) (.t 7))), (.op (some 10) none (.ld (.t 9))), (.op (some 4) none (.mv (.t 10)))]) (.seq (.reg [(.op (some 11) none (.mv (.t 4))), (.op (some 12) none
  (.bin .lss (.t 11) (.c (.int .i64 0)))), (.op (some 13) none (.mv (.t 12))), (.op (some 14) (some (13, false)) (.mv (.t 4))), (.op (some 15) (some (13, false)) (.bin
  .gtr (.t 14) (.c (.int .i64 11)))), (.op (some 16) none (.pick (.t 13) (.c (.bool true)) (.t 15)))]) (.cond (.t 16) (.seq (.reg [(.op (some 2) none (.mv (.c (.bool
  false))))]) .ret) .skip)))) (.reg [(.op (some 17) none (.bin .add (.t 7) (.c (.int .i64 1)))), (.op (some 7) none (.mv (.t 17)))]))))
def s130_0 (S : Sys) (e : Fe) (H : Heap) (Q : Kx) : Prop := run S (.bin .lss (.c (e 7)) (.c (e 6))) [] H fun t8_7 H => jn (sq (fun e9 H => jn (sq (fun e11 H => run S
  (.bin .add (.c (e11 7)) (.c (.int .i64 1))) [] H fun t17_12 H => Q .normal (upd (upd e11 17 t17_12) 7 t17_12) H) Q) fun Q10 => run S (.iad 1 (.c (e9 5)) (.c (e9 7)))
  [] H fun t9_13 H => run S (.ld (.c t9_13)) [] H fun t10_14 H => run S (.bin .lss (.c t10_14) (.c (.int .i64 0))) [] H fun t12_15 H => gd t12_15 false (run S (.mv (.c
  t10_14)) [] H) H fun t14_16 H => gd t12_15 false (run S (.bin .gtr (.c t14_16) (.c (.int .i64 11))) [] H) H fun t15_17 H => run S (.pick (.c t12_15) (.c (.bool true))
  (.c t15_17)) [] H fun t16_18 H => jn (blk 1 Q10) fun Q19 => cnd t16_18 (fun Q20 => Q20 .ret (upd (upd (upd (upd (upd (upd (upd (upd (upd (upd e9 9 t9_13) 10 t10_14) 4
  t10_14) 11 t10_14) 12 t12_15) 13 t12_15) 14 t14_16) 15 t15_17) 16 t16_18) 2 (.bool false)) H) (fun Q21 => Q21 .normal (upd (upd (upd (upd (upd (upd (upd (upd (upd e9 9
  t9_13) 10 t10_14) 4 t10_14) 11 t10_14) 12 t12_15) 13 t12_15) 14 t14_16) 15 t15_17) 16 t16_18) H) Q19) Q) fun Q8 => cnd t8_7 (fun Q22 => Q22 .normal (upd e 8 t8_7) H)
  (fun Q23 => Q23 (.exit 0) (upd e 8 t8_7) H) Q8
theorem h130_0 (S : Sys) (e : Fe) (H : Heap) (Q : Kx) : wpC S b130_0 e H Q = s130_0 S e H Q := by kernel_rfl
theorem l130_0 (S : Sys) {Q : Kx} (I : Nat → Fe → Heap → Prop) (d : Nat) {e0 : Fe} {H : Heap} (h0 : I d e0 H) (hr : ∀ (d : Nat) (e : Fe) (H : Heap), I d e H → s130_0 S e
  H (sq (fun e' H' => ∃ d', d' < d ∧ I d' e' H') Q)) : WL S b130_0 e0 H Q := WL_inv I d h0 fun d e H hi => (h130_0 S e H _).mpr (hr d e H hi)
theorem u130_0 (S : Sys) {Q : Kx} {e : Fe} {H : Heap} (h : s130_0 S e H (sq (fun e' H' => WL S b130_0 e' H' Q) Q)) : WL S b130_0 e H Q := WL_once ((h130_0 S e H _).mpr h)
def s130 (S : Sys) (a0 : Value) (H : Heap) (R : Kv) : Prop := run S (.lenL (.c a0)) [] H fun t6_1 H => jn (sq (fun e3 H => run S (.lenL (.c (e3 0))) [] H fun t19_4 H =>
  run S (.bin .leq (.c t19_4) (.c (.int .i64 256))) [] H fun t20_5 H => R t20_5 H) (fn [(.t 2)] R)) fun Q2 => jn (blk 0 Q2) fun Q6 => WL S b130_0 (upd (upd (upd (upd
  (Env.get [a0]) 2 (.bool false)) 5 a0) 6 t6_1) 7 (.int .i64 0)) H Q6
theorem h130 (S : Sys) (a0 : Value) (H : Heap) (R : Kv) : wpC S k130.body (Env.get [a0]) H (fn [(.t 2)] R) = s130 S a0 H R := by kernel_rfl
theorem w130 {S : Sys} (hR : S.R 130 = none) (hF : S.F 130 = some k130) (a0 : Value) {H : Heap} {R : Kv} (h : s130 S a0 H R) : Wf S 130 [a0] H R := Wf_sh hR hF ((h130 S
  a0 H R).mpr h)
def b131_0 : KCode := (.seq (.reg [(.op (some 11) none (.bin .lss (.t 10) (.t 9)))]) (.seq (.cond (.t 11) .skip (.exit 0)) (.seq (.block 1 (.seq (.reg [(.op (some 12)
  none (.iad 1 (.t 8) (.t 10))), (.op (some 13) none (.ld (.t 12))), (.op (some 4) none (.mv (.t 13)))]) (.seq (.reg [(.op (some 14) none (.mv (.t 4))), (.op (some 15)
  none (.bin .lss (.t 14) (.c (.int .i64 0)))), (.op (some 16) none (.mv (.t 15))), (.op (some 17) (some (16, false)) (.mv (.t 4))), (.op (some 18) (some (16, false))
  (.bin .gtr (.t 17) (.c (.int .i64 1048576)))), (.op (some 19) none (.pick (.t 16) (.c (.bool true)) (.t 18)))]) (.cond (.t 19) (.seq (.reg [(.op (some 2) none (.mv (.c
  (.bool false))))]) .ret) .skip)))) (.reg [(.op (some 20) none (.bin .add (.t 10) (.c (.int .i64 1)))), (.op (some 10) none (.mv (.t 20)))]))))
def s131_0 (S : Sys) (e : Fe) (H : Heap) (Q : Kx) : Prop := run S (.bin .lss (.c (e 10)) (.c (e 9))) [] H fun t11_13 H => jn (sq (fun e15 H => jn (sq (fun e17 H => run S
  (.bin .add (.c (e17 10)) (.c (.int .i64 1))) [] H fun t20_18 H => Q .normal (upd (upd e17 20 t20_18) 10 t20_18) H) Q) fun Q16 => run S (.iad 1 (.c (e15 8)) (.c (e15
  10))) [] H fun t12_19 H => run S (.ld (.c t12_19)) [] H fun t13_20 H => run S (.bin .lss (.c t13_20) (.c (.int .i64 0))) [] H fun t15_21 H => gd t15_21 false (run S
  (.mv (.c t13_20)) [] H) H fun t17_22 H => gd t15_21 false (run S (.bin .gtr (.c t17_22) (.c (.int .i64 1048576))) [] H) H fun t18_23 H => run S (.pick (.c t15_21) (.c
  (.bool true)) (.c t18_23)) [] H fun t19_24 H => jn (blk 1 Q16) fun Q25 => cnd t19_24 (fun Q26 => Q26 .ret (upd (upd (upd (upd (upd (upd (upd (upd (upd (upd e15 12
  t12_19) 13 t13_20) 4 t13_20) 14 t13_20) 15 t15_21) 16 t15_21) 17 t17_22) 18 t18_23) 19 t19_24) 2 (.bool false)) H) (fun Q27 => Q27 .normal (upd (upd (upd (upd (upd
  (upd (upd (upd (upd e15 12 t12_19) 13 t13_20) 4 t13_20) 14 t13_20) 15 t15_21) 16 t15_21) 17 t17_22) 18 t18_23) 19 t19_24) H) Q25) Q) fun Q14 => cnd t11_13 (fun Q28 =>
  Q28 .normal (upd e 11 t11_13) H) (fun Q29 => Q29 (.exit 0) (upd e 11 t11_13) H) Q14
theorem h131_0 (S : Sys) (e : Fe) (H : Heap) (Q : Kx) : wpC S b131_0 e H Q = s131_0 S e H Q := by kernel_rfl
theorem l131_0 (S : Sys) {Q : Kx} (I : Nat → Fe → Heap → Prop) (d : Nat) {e0 : Fe} {H : Heap} (h0 : I d e0 H) (hr : ∀ (d : Nat) (e : Fe) (H : Heap), I d e H → s131_0 S e
  H (sq (fun e' H' => ∃ d', d' < d ∧ I d' e' H') Q)) : WL S b131_0 e0 H Q := WL_inv I d h0 fun d e H hi => (h131_0 S e H _).mpr (hr d e H hi)
theorem u131_0 (S : Sys) {Q : Kx} {e : Fe} {H : Heap} (h : s131_0 S e H (sq (fun e' H' => WL S b131_0 e' H' Q) Q)) : WL S b131_0 e H Q := WL_once ((h131_0 S e H _).mpr h)
def s131 (S : Sys) (a0 : Value) (H : Heap) (R : Kv) : Prop := run S (.lenL (.c a0)) [] H fun t6_1 H => run S (.bin .gtr (.c t6_1) (.c (.int .i64 256))) [] H fun t7_2 H
  => jn (sq (fun e4 H => run S (.lenL (.c (e4 0))) [] H fun t9_5 H => jn (sq (fun e7 H => run S (.call 162 [(.c (e7 0))]) [] H fun t22_8 H => run S (.bin .gtr (.c t22_8)
  (.c (.int .i64 0))) [] H fun t23_9 H => R t23_9 H) (fn [(.t 2)] R)) fun Q6 => jn (blk 0 Q6) fun Q10 => WL S b131_0 (upd (upd (upd e4 8 (e4 0)) 9 t9_5) 10 (.int .i64
  0)) H Q10) (fn [(.t 2)] R)) fun Q3 => cnd t7_2 (fun Q11 => Q11 .ret (upd (upd (upd (upd (upd (Env.get [a0]) 2 (.bool false)) 5 a0) 6 t6_1) 7 t7_2) 2 (.bool false)) H)
  (fun Q12 => Q12 .normal (upd (upd (upd (upd (Env.get [a0]) 2 (.bool false)) 5 a0) 6 t6_1) 7 t7_2) H) Q3
theorem h131 (S : Sys) (a0 : Value) (H : Heap) (R : Kv) : wpC S k131.body (Env.get [a0]) H (fn [(.t 2)] R) = s131 S a0 H R := by kernel_rfl
theorem w131 {S : Sys} (hR : S.R 131 = none) (hF : S.F 131 = some k131) (a0 : Value) {H : Heap} {R : Kv} (h : s131 S a0 H R) : Wf S 131 [a0] H R := Wf_sh hR hF ((h131 S
  a0 H R).mpr h)
def b162_0 : KCode := (.seq (.reg [(.op (some 9) none (.bin .lss (.t 8) (.t 7)))]) (.seq (.cond (.t 9) .skip (.exit 0)) (.seq (.block 1 (.seq (.reg [(.op (some 10) none
  (.iad 1 (.t 6) (.t 8))), (.op (some 11) none (.ld (.t 10))), (.op (some 5) none (.mv (.t 11)))]) (.reg [(.op (some 12) none (.mv (.t 3))), (.op (some 13) none (.mv (.t
  5))), (.op (some 14) none (.bin .add (.t 12) (.t 13))), (.op (some 3) none (.mv (.t 14)))]))) (.reg [(.op (some 15) none (.bin .add (.t 8) (.c (.int .i64 1)))), (.op
  (some 8) none (.mv (.t 15)))]))))
def s162_0 (S : Sys) (e : Fe) (H : Heap) (Q : Kx) : Prop := run S (.bin .lss (.c (e 8)) (.c (e 7))) [] H fun t9_5 H => jn (sq (fun e7 H => jn (sq (fun e9 H => run S
  (.bin .add (.c (e9 8)) (.c (.int .i64 1))) [] H fun t15_10 H => Q .normal (upd (upd e9 15 t15_10) 8 t15_10) H) Q) fun Q8 => run S (.iad 1 (.c (e7 6)) (.c (e7 8))) [] H
  fun t10_11 H => run S (.ld (.c t10_11)) [] H fun t11_12 H => run S (.bin .add (.c (e7 3)) (.c t11_12)) [] H fun t14_13 H => Q8 .normal (upd (upd (upd (upd (upd (upd
  (upd e7 10 t10_11) 11 t11_12) 5 t11_12) 12 (e7 3)) 13 t11_12) 14 t14_13) 3 t14_13) H) Q) fun Q6 => cnd t9_5 (fun Q14 => Q14 .normal (upd e 9 t9_5) H) (fun Q15 => Q15
  (.exit 0) (upd e 9 t9_5) H) Q6
theorem h162_0 (S : Sys) (e : Fe) (H : Heap) (Q : Kx) : wpC S b162_0 e H Q = s162_0 S e H Q := by kernel_rfl
theorem l162_0 (S : Sys) {Q : Kx} (I : Nat → Fe → Heap → Prop) (d : Nat) {e0 : Fe} {H : Heap} (h0 : I d e0 H) (hr : ∀ (d : Nat) (e : Fe) (H : Heap), I d e H → s162_0 S e
  H (sq (fun e' H' => ∃ d', d' < d ∧ I d' e' H') Q)) : WL S b162_0 e0 H Q := WL_inv I d h0 fun d e H hi => (h162_0 S e H _).mpr (hr d e H hi)
theorem u162_0 (S : Sys) {Q : Kx} {e : Fe} {H : Heap} (h : s162_0 S e H (sq (fun e' H' => WL S b162_0 e' H' Q) Q)) : WL S b162_0 e H Q := WL_once ((h162_0 S e H _).mpr h)
def s162 (S : Sys) (a0 : Value) (H : Heap) (R : Kv) : Prop := run S (.lenL (.c a0)) [] H fun t7_1 H => jn (sq (fun e3 H => R (e3 3) H) (fn [(.t 2)] R)) fun Q2 => jn (blk
  0 Q2) fun Q4 => WL S b162_0 (upd (upd (upd (upd (upd (Env.get [a0]) 2 (.int .i64 0)) 3 (.int .i64 0)) 6 a0) 7 t7_1) 8 (.int .i64 0)) H Q4
theorem h162 (S : Sys) (a0 : Value) (H : Heap) (R : Kv) : wpC S k162.body (Env.get [a0]) H (fn [(.t 2)] R) = s162 S a0 H R := by kernel_rfl
theorem w162 {S : Sys} (hR : S.R 162 = none) (hF : S.F 162 = some k162) (a0 : Value) {H : Heap} {R : Kv} (h : s162 S a0 H R) : Wf S 162 [a0] H R := Wf_sh hR hF ((h162 S
  a0 H R).mpr h)
end Go.Proofs.Ytpcpelbbeofenaa.K
