/- The functions as nested words with named values, each held against its code by the kernel. Printed by a program of this work (sh.py). -/
import Derived.Test.YtpcpelbbeofenaaKLowCode
set_option maxRecDepth 100000
set_option linter.unusedVariables false
namespace Go.Proofs.Ytpcpelbbeofenaa.K
open Go Go.Proofs
def b4_0 : KCode := (.seq (.reg [(.op (some 20) none (.bin .lss (.t 19) (.t 18)))]) (.seq (.cond (.t 20) .skip (.exit 0)) (.seq (.block 1 (.seq (.reg [(.op (some 21)
  none (.iad 5 (.t 17) (.t 19))), (.op (some 22) none (.ldn 5 (.t 21))), (.op (some 6) none (.alloc 34 [(.int .i64 0), (.int .i64 0), (.int .i64 0), (.bool false),
  (.string (bs []))])), (.op none none (.stn 5 (.t 6) (.t 22)))]) (.seq (.seq (.reg [(.op (some 23) none (.fad 4 (.t 6))), (.op (some 24) none (.ld (.t 23))), (.op (some
  25) none (.lenS (.t 24))), (.op (some 26) none (.bin .gtr (.t 25) (.c (.int .i64 700))))]) (.cond (.t 26) (.seq (.reg [(.op (some 2) none (.mv (.c (.bool true))))])
  .ret) .skip)) (.seq (.seq (.reg [(.op (some 27) none (.ldn 5 (.t 6))), (.op (some 29) none (.ldn 5 (.t 6))), (.op (some 28) none (.call 24 [(.t 27)])), (.chk 29 none
  (.ldn 5 (.t 6))), (.op (some 30) none (.call 25 [(.t 29)])), (.op (some 31) none (.eqv (.s .bool) true (.t 28) (.t 30)))]) (.cond (.t 31) (.seq (.reg [(.op (some 2)
  none (.mv (.c (.bool false))))]) .ret) .skip)) (.seq (.seq (.reg [(.op (some 32) none (.ldn 5 (.t 6))), (.op (some 33) none (.call 25 [(.t 32)])), (.op (some 34) none
  (.un .not (.t 33)))]) (.cond (.t 34) (.reg [(.op (some 4) none (.mv (.c (.bool false))))]) .skip)) (.seq (.reg [(.op (some 35) none (.mv (.t 4)))]) (.cond (.t 35)
  (.reg [(.op (some 36) none (.mv (.t 3))), (.op (some 37) none (.ldn 5 (.t 6))), (.op (some 38) none (.call 26 [(.t 37)])), (.op (some 39) none (.bin .add (.t 36) (.t
  38))), (.op (some 3) none (.mv (.t 39)))]) .skip))))))) (.reg [(.op (some 40) none (.bin .add (.t 19) (.c (.int .i64 1)))), (.op (some 19) none (.mv (.t 40)))]))))
def s4_0 (S : Sys) (e : Fe) (H : Heap) (Q : Kx) : Prop := run S (.bin .lss (.c (e 19)) (.c (e 18))) [] H fun t20_48 H => jn (sq (fun e50 H => jn (sq (fun e52 H => run S
  (.bin .add (.c (e52 19)) (.c (.int .i64 1))) [] H fun t40_53 H => Q .normal (upd (upd e52 40 t40_53) 19 t40_53) H) Q) fun Q51 => run S (.iad 5 (.c (e50 17)) (.c (e50
  19))) [] H fun t21_54 H => run S (.ldn 5 (.c t21_54)) [] H fun t22_55 H => run S (.alloc 34 [(.int .i64 0), (.int .i64 0), (.int .i64 0), (.bool false), (.string (bs
  []))]) [] H fun t6_56 H => run S (.stn 5 (.c t6_56) (.c t22_55)) [] H fun _ H => run S (.fad 4 (.c t6_56)) [] H fun t23_57 H => run S (.ld (.c t23_57)) [] H fun t24_58
  H => run S (.lenS (.c t24_58)) [] H fun t25_59 H => run S (.bin .gtr (.c t25_59) (.c (.int .i64 700))) [] H fun t26_60 H => jn (blk 1 Q51) fun Q61 => jn (sq (fun e63 H
  => run S (.ldn 5 (.c (e63 6))) [] H fun t27_64 H => run S (.ldn 5 (.c (e63 6))) [] H fun t29_65 H => run S (.call 24 [(.c t27_64)]) [] H fun t28_66 H => ck (kop (.ldn
  5 (.c (e63 6))) [] H) t29_65 (run S (.call 25 [(.c t29_65)]) [] H fun t30_67 H => run S (.eqv (.s .bool) true (.c t28_66) (.c t30_67)) [] H fun t31_68 H => jn (sq (fun
  e70 H => run S (.ldn 5 (.c (e70 6))) [] H fun t32_71 H => run S (.call 25 [(.c t32_71)]) [] H fun t33_72 H => run S (.un .not (.c t33_72)) [] H fun t34_73 H => jn (sq
  (fun e75 H => cnd (e75 4) (fun Q76 => run S (.ldn 5 (.c (e75 6))) [] H fun t37_78 H => run S (.call 26 [(.c t37_78)]) [] H fun t38_79 H => run S (.bin .add (.c (e75
  3)) (.c t38_79)) [] H fun t39_80 H => Q76 .normal (upd (upd (upd (upd (upd (upd e75 35 (e75 4)) 36 (e75 3)) 37 t37_78) 38 t38_79) 39 t39_80) 3 t39_80) H) (fun Q77 =>
  Q77 .normal (upd e75 35 (e75 4)) H) Q61) Q61) fun Q74 => cnd t34_73 (fun Q81 => Q81 .normal (upd (upd (upd (upd e70 32 t32_71) 33 t33_72) 34 t34_73) 4 (.bool false))
  H) (fun Q82 => Q82 .normal (upd (upd (upd e70 32 t32_71) 33 t33_72) 34 t34_73) H) Q74) Q61) fun Q69 => cnd t31_68 (fun Q83 => Q83 .ret (upd (upd (upd (upd (upd (upd
  e63 27 t27_64) 29 t29_65) 28 t28_66) 30 t30_67) 31 t31_68) 2 (.bool false)) H) (fun Q84 => Q84 .normal (upd (upd (upd (upd (upd e63 27 t27_64) 29 t29_65) 28 t28_66) 30
  t30_67) 31 t31_68) H) Q69)) Q61) fun Q62 => cnd t26_60 (fun Q85 => Q85 .ret (upd (upd (upd (upd (upd (upd (upd (upd e50 21 t21_54) 22 t22_55) 6 t6_56) 23 t23_57) 24
  t24_58) 25 t25_59) 26 t26_60) 2 (.bool true)) H) (fun Q86 => Q86 .normal (upd (upd (upd (upd (upd (upd (upd e50 21 t21_54) 22 t22_55) 6 t6_56) 23 t23_57) 24 t24_58) 25
  t25_59) 26 t26_60) H) Q62) Q) fun Q49 => cnd t20_48 (fun Q87 => Q87 .normal (upd e 20 t20_48) H) (fun Q88 => Q88 (.exit 0) (upd e 20 t20_48) H) Q49
theorem h4_0 (S : Sys) (e : Fe) (H : Heap) (Q : Kx) : wpC S b4_0 e H Q = s4_0 S e H Q := by kernel_rfl
theorem l4_0 (S : Sys) {Q : Kx} (I : Nat → Fe → Heap → Prop) (d : Nat) {e0 : Fe} {H : Heap} (h0 : I d e0 H) (hr : ∀ (d : Nat) (e : Fe) (H : Heap), I d e H → s4_0 S e H
  (sq (fun e' H' => ∃ d', d' < d ∧ I d' e' H') Q)) : WL S b4_0 e0 H Q := WL_inv I d h0 fun d e H hi => (h4_0 S e H _).mpr (hr d e H hi)
theorem u4_0 (S : Sys) {Q : Kx} {e : Fe} {H : Heap} (h : s4_0 S e H (sq (fun e' H' => WL S b4_0 e' H' Q) Q)) : WL S b4_0 e H Q := WL_once ((h4_0 S e H _).mpr h)
def s4 (S : Sys) (a0 : Value) (H : Heap) (R : Kv) : Prop := run S (.call 23 []) [] H fun t12_1 H => run S (.un .not (.c t12_1)) [] H fun t13_2 H => jn (sq (fun e4 H =>
  run S (.lenL (.c (e4 0))) [] H fun t15_5 H => run S (.bin .gtr (.c t15_5) (.c (.int .i64 60))) [] H fun t16_6 H => jn (sq (fun e8 H => run S (.lenL (.c (e8 0))) [] H
  fun t18_9 H => jn (sq (fun e11 H => run S (.call 27 [(.c (e11 0))]) [] H fun t43_12 H => run S (.xt (.c t43_12) 0) [] H fun t44_13 H => run S (.xt (.c t43_12) 1) [] H
  fun t45_14 H => run S (.un .not (.c (e11 4))) [] H fun t47_15 H => jn (sq (fun e17 H => run S (.call 28 [(.c (e17 7))]) [] H fun t56_18 H => run S (.xt (.c t56_18) 0)
  [] H fun t57_19 H => run S (.xt (.c t56_18) 1) [] H fun t58_20 H => run S (.xt (.c t56_18) 2) [] H fun t59_21 H => run S (.bin .eql (.c (e17 8)) (.c (.int .i64 0))) []
  H fun t61_22 H => gd t61_22 true (run S (.mv (.c (e17 7))) [] H) H fun t63_23 H => gd t61_22 true (run S (.mv (.c (e17 3))) [] H) H fun t64_24 H => gd t61_22 true (run
  S (.bin .eql (.c t63_23) (.c t64_24)) [] H) H fun t65_25 H => run S (.pick (.c t61_22) (.c t65_25) (.c (.bool false))) [] H fun t66_26 H => gd t66_26 true (run S (.mv
  (.c t58_20)) [] H) H fun t68_27 H => gd t66_26 true (run S (.bin .eql (.c t68_27) (.c (.int .i64 0))) [] H) H fun t69_28 H => run S (.pick (.c t66_26) (.c t69_28) (.c
  (.bool false))) [] H fun t70_29 H => gd t70_29 true (run S (.mv (.c t59_21)) [] H) H fun t72_30 H => gd t70_29 true (run S (.bin .eql (.c t72_30) (.c (.int .i64 0)))
  [] H) H fun t73_31 H => run S (.pick (.c t70_29) (.c t73_31) (.c (.bool false))) [] H fun t74_32 H => gd t74_32 true (run S (.mv (.c t57_19)) [] H) H fun t76_33 H =>
  gd t74_32 true (run S (.mv (.c (e17 0))) [] H) H fun t77_34 H => gd t74_32 true (run S (.call 29 [(.c t76_33), (.c t77_34)]) [] H) H fun t78_35 H => run S (.pick (.c
  t74_32) (.c t78_35) (.c (.bool false))) [] H fun t79_36 H => R t79_36 H) (fn [(.t 2)] R)) fun Q16 => cnd t47_15 (fun Q37 => run S (.bin .eql (.c t44_13) (.c (.string
  (bs [])))) [] H fun t49_39 H => gd t49_39 true (run S (.mv (.c t45_14)) [] H) H fun t51_40 H => gd t49_39 true (run S (.bin .eql (.c t51_40) (.c (.int .i64 3))) [] H)
  H fun t52_41 H => run S (.pick (.c t49_39) (.c t52_41) (.c (.bool false))) [] H fun t53_42 H => Q37 .ret (upd (upd (upd (upd (upd (upd (upd (upd (upd (upd (upd (upd
  (upd (upd (upd (upd e11 42 (e11 0)) 43 t43_12) 41 t43_12) 44 t44_13) 45 t45_14) 7 t44_13) 8 t45_14) 46 (e11 4)) 47 t47_15) 48 t44_13) 49 t49_39) 50 t49_39) 51 t51_40)
  52 t52_41) 53 t53_42) 2 t53_42) H) (fun Q38 => Q38 .normal (upd (upd (upd (upd (upd (upd (upd (upd (upd e11 42 (e11 0)) 43 t43_12) 41 t43_12) 44 t44_13) 45 t45_14) 7
  t44_13) 8 t45_14) 46 (e11 4)) 47 t47_15) H) Q16) (fn [(.t 2)] R)) fun Q10 => jn (blk 0 Q10) fun Q43 => WL S b4_0 (upd (upd (upd (upd (upd e8 3 (.string (bs []))) 4
  (.bool true)) 17 (e8 0)) 18 t18_9) 19 (.int .i64 0)) H Q43) (fn [(.t 2)] R)) fun Q7 => cnd t16_6 (fun Q44 => Q44 .ret (upd (upd (upd (upd e4 14 (e4 0)) 15 t15_5) 16
  t16_6) 2 (.bool true)) H) (fun Q45 => Q45 .normal (upd (upd (upd e4 14 (e4 0)) 15 t15_5) 16 t16_6) H) Q7) (fn [(.t 2)] R)) fun Q3 => cnd t13_2 (fun Q46 => Q46 .ret
  (upd (upd (upd (upd (Env.get [a0]) 2 (.bool false)) 12 t12_1) 13 t13_2) 2 (.bool false)) H) (fun Q47 => Q47 .normal (upd (upd (upd (Env.get [a0]) 2 (.bool false)) 12
  t12_1) 13 t13_2) H) Q3
theorem h4 (S : Sys) (a0 : Value) (H : Heap) (R : Kv) : wpC S k4.body (Env.get [a0]) H (fn [(.t 2)] R) = s4 S a0 H R := by kernel_rfl
theorem w4 {S : Sys} (hR : S.R 4 = none) (hF : S.F 4 = some k4) (a0 : Value) {H : Heap} {R : Kv} (h : s4 S a0 H R) : Wf S 4 [a0] H R := Wf_sh hR hF ((h4 S a0 H R).mpr h)
def b5_0 : KCode := (.seq (.seq (.reg [(.op (some 23) none (.mv (.t 7))), (.op (some 24) none (.mv (.t 0))), (.op (some 25) none (.lenS (.t 24))), (.op (some 26) none
  (.bin .lss (.t 23) (.t 25)))]) (.cond (.t 26) .skip (.exit 0))) (.block 1 (.seq (.reg [(.op (some 28) none (.mv (.t 0))), (.op (some 29) none (.mv (.t 7))), (.op (some
  30) none (.slS (.t 28) (some (.t 29)) none)), (.op (some 31) none (.call 30 [(.t 30)])), (.op (some 27) none (.mv (.t 31))), (.op (some 32) none (.xt (.t 27) 0)), (.op
  (some 33) none (.xt (.t 27) 1)), (.op (some 8) none (.alloc 34 [(.int .i64 0), (.int .i64 0), (.int .i64 0), (.bool false), (.string (bs []))])), (.op none none (.stn
  5 (.t 8) (.t 32))), (.op (some 9) none (.mv (.t 33)))]) (.seq (.seq (.reg [(.op (some 34) none (.mv (.t 9))), (.op (some 35) none (.bin .eql (.t 34) (.c (.int .i64
  0))))]) (.cond (.t 35) (.seq (.reg [(.op (some 36) none (.mv (.t 4))), (.op (some 37) none (.bin .eql (.t 36) (.c (.int .i64 3)))), (.op (some 38) none (.mv (.t 37))),
  (.op (some 39) (some (38, true)) (.mv (.t 5))), (.op (some 40) (some (38, true)) (.mv (.t 7))), (.op (some 41) (some (38, true)) (.bin .eql (.t 39) (.t 40))), (.op
  (some 42) none (.pick (.t 38) (.t 41) (.c (.bool false)))), (.op (some 43) none (.mv (.t 42))), (.op (some 44) (some (43, true)) (.mv (.t 3))), (.op (some 45) (some
  (43, true)) (.lenL (.t 44))), (.op (some 46) (some (43, true)) (.bin .eql (.t 45) (.c (.int .i64 0)))), (.op (some 47) none (.pick (.t 43) (.t 46) (.c (.bool
  false)))), (.op (some 2) none (.mv (.t 47)))]) .ret) .skip)) (.reg [(.op (some 48) none (.mv (.t 6))), (.op (some 49) none (.ldn 5 (.t 8))), (.op (some 50) none (.bsl
  34 1 [(.int .i64 0), (.int .i64 0), (.int .i64 0), (.bool false), (.string (bs []))] [(0, (5, (.t 49)))])), (.op (some 51) none (.app 34 5 48 (.t 48) (.t 50))), (.op
  (some 52) none (.mv (.t 7))), (.op (some 53) none (.mv (.t 9))), (.op (some 54) none (.bin .add (.t 52) (.t 53))), (.op (some 6) none (.mv (.t 51))), (.op (some 7)
  none (.mv (.t 54)))])))))
def s5_0 (S : Sys) (e : Fe) (H : Heap) (Q : Kx) : Prop := run S (.lenS (.c (e 0))) [] H fun t25_38 H => run S (.bin .lss (.c (e 7)) (.c t25_38)) [] H fun t26_39 H => jn
  (sq (fun e41 H => run S (.slS (.c (e41 0)) (some (.c (e41 7))) none) [] H fun t30_42 H => run S (.call 30 [(.c t30_42)]) [] H fun t31_43 H => run S (.xt (.c t31_43) 0)
  [] H fun t32_44 H => run S (.xt (.c t31_43) 1) [] H fun t33_45 H => run S (.alloc 34 [(.int .i64 0), (.int .i64 0), (.int .i64 0), (.bool false), (.string (bs []))])
  [] H fun t8_46 H => run S (.stn 5 (.c t8_46) (.c t32_44)) [] H fun _ H => run S (.bin .eql (.c t33_45) (.c (.int .i64 0))) [] H fun t35_47 H => jn (blk 1 Q) fun Q48 =>
  jn (sq (fun e50 H => run S (.ldn 5 (.c (e50 8))) [] H fun t49_51 H => run S (.bsl 34 1 [(.int .i64 0), (.int .i64 0), (.int .i64 0), (.bool false), (.string (bs []))]
  [(0, (5, (.c t49_51)))]) [] H fun t50_52 H => run S (.app 34 5 48 (.c (e50 6)) (.c t50_52)) [] H fun t51_53 H => run S (.bin .add (.c (e50 7)) (.c (e50 9))) [] H fun
  t54_54 H => Q48 .normal (upd (upd (upd (upd (upd (upd (upd (upd (upd e50 48 (e50 6)) 49 t49_51) 50 t50_52) 51 t51_53) 52 (e50 7)) 53 (e50 9)) 54 t54_54) 6 t51_53) 7
  t54_54) H) Q48) fun Q49 => cnd t35_47 (fun Q55 => run S (.bin .eql (.c (e41 4)) (.c (.int .i64 3))) [] H fun t37_57 H => gd t37_57 true (run S (.mv (.c (e41 5))) [] H)
  H fun t39_58 H => gd t37_57 true (run S (.mv (.c (e41 7))) [] H) H fun t40_59 H => gd t37_57 true (run S (.bin .eql (.c t39_58) (.c t40_59)) [] H) H fun t41_60 H =>
  run S (.pick (.c t37_57) (.c t41_60) (.c (.bool false))) [] H fun t42_61 H => gd t42_61 true (run S (.mv (.c (e41 3))) [] H) H fun t44_62 H => gd t42_61 true (run S
  (.lenL (.c t44_62)) [] H) H fun t45_63 H => gd t42_61 true (run S (.bin .eql (.c t45_63) (.c (.int .i64 0))) [] H) H fun t46_64 H => run S (.pick (.c t42_61) (.c
  t46_64) (.c (.bool false))) [] H fun t47_65 H => Q55 .ret (upd (upd (upd (upd (upd (upd (upd (upd (upd (upd (upd (upd (upd (upd (upd (upd (upd (upd (upd (upd (upd (upd
  (upd (upd e41 28 (e41 0)) 29 (e41 7)) 30 t30_42) 31 t31_43) 27 t31_43) 32 t32_44) 33 t33_45) 8 t8_46) 9 t33_45) 34 t33_45) 35 t35_47) 36 (e41 4)) 37 t37_57) 38 t37_57)
  39 t39_58) 40 t40_59) 41 t41_60) 42 t42_61) 43 t42_61) 44 t44_62) 45 t45_63) 46 t46_64) 47 t47_65) 2 t47_65) H) (fun Q56 => Q56 .normal (upd (upd (upd (upd (upd (upd
  (upd (upd (upd (upd (upd e41 28 (e41 0)) 29 (e41 7)) 30 t30_42) 31 t31_43) 27 t31_43) 32 t32_44) 33 t33_45) 8 t8_46) 9 t33_45) 34 t33_45) 35 t35_47) H) Q49) Q) fun Q40
  => cnd t26_39 (fun Q66 => Q66 .normal (upd (upd (upd (upd e 23 (e 7)) 24 (e 0)) 25 t25_38) 26 t26_39) H) (fun Q67 => Q67 (.exit 0) (upd (upd (upd (upd e 23 (e 7)) 24
  (e 0)) 25 t25_38) 26 t26_39) H) Q40
theorem h5_0 (S : Sys) (e : Fe) (H : Heap) (Q : Kx) : wpC S b5_0 e H Q = s5_0 S e H Q := by kernel_rfl
theorem l5_0 (S : Sys) {Q : Kx} (I : Nat → Fe → Heap → Prop) (d : Nat) {e0 : Fe} {H : Heap} (h0 : I d e0 H) (hr : ∀ (d : Nat) (e : Fe) (H : Heap), I d e H → s5_0 S e H
  (sq (fun e' H' => ∃ d', d' < d ∧ I d' e' H') Q)) : WL S b5_0 e0 H Q := WL_inv I d h0 fun d e H hi => (h5_0 S e H _).mpr (hr d e H hi)
theorem u5_0 (S : Sys) {Q : Kx} {e : Fe} {H : Heap} (h : s5_0 S e H (sq (fun e' H' => WL S b5_0 e' H' Q) Q)) : WL S b5_0 e H Q := WL_once ((h5_0 S e H _).mpr h)
def s5 (S : Sys) (a0 : Value) (H : Heap) (R : Kv) : Prop := run S (.call 23 []) [] H fun t12_1 H => run S (.un .not (.c t12_1)) [] H fun t13_2 H => jn (sq (fun e4 H =>
  run S (.lenS (.c (e4 0))) [] H fun t15_5 H => run S (.bin .gtr (.c t15_5) (.c (.int .i64 300))) [] H fun t16_6 H => jn (sq (fun e8 H => run S (.call 28 [(.c (e8 0))])
  [] H fun t19_9 H => run S (.xt (.c t19_9) 0) [] H fun t20_10 H => run S (.xt (.c t19_9) 1) [] H fun t21_11 H => run S (.xt (.c t19_9) 2) [] H fun t22_12 H => jn (sq
  (fun e14 H => run S (.call 27 [(.c (e14 3))]) [] H fun t57_15 H => run S (.xt (.c t57_15) 0) [] H fun t58_16 H => run S (.xt (.c t57_15) 1) [] H fun t59_17 H => run S
  (.bin .eql (.c (e14 4)) (.c (.int .i64 0))) [] H fun t61_18 H => gd t61_18 true (run S (.mv (.c (e14 5))) [] H) H fun t63_19 H => gd t61_18 true (run S (.bin .eql (.c
  t63_19) (.c (.int .i64 0))) [] H) H fun t64_20 H => run S (.pick (.c t61_18) (.c t64_20) (.c (.bool false))) [] H fun t65_21 H => gd t65_21 true (run S (.mv (.c (e14
  3))) [] H) H fun t67_22 H => gd t65_21 true (run S (.mv (.c (e14 6))) [] H) H fun t68_23 H => gd t65_21 true (run S (.call 29 [(.c t67_22), (.c t68_23)]) [] H) H fun
  t69_24 H => run S (.pick (.c t65_21) (.c t69_24) (.c (.bool false))) [] H fun t70_25 H => gd t70_25 true (run S (.mv (.c t59_17)) [] H) H fun t72_26 H => gd t70_25
  true (run S (.bin .eql (.c t72_26) (.c (.int .i64 0))) [] H) H fun t73_27 H => run S (.pick (.c t70_25) (.c t73_27) (.c (.bool false))) [] H fun t74_28 H => gd t74_28
  true (run S (.mv (.c t58_16)) [] H) H fun t76_29 H => gd t74_28 true (run S (.mv (.c (e14 0))) [] H) H fun t77_30 H => gd t74_28 true (run S (.bin .eql (.c t76_29) (.c
  t77_30)) [] H) H fun t78_31 H => run S (.pick (.c t74_28) (.c t78_31) (.c (.bool false))) [] H fun t79_32 H => R t79_32 H) (fn [(.t 2)] R)) fun Q13 => jn (blk 0 Q13)
  fun Q33 => WL S b5_0 (upd (upd (upd (upd (upd (upd (upd (upd (upd (upd (upd e8 18 (e8 0)) 19 t19_9) 17 t19_9) 20 t20_10) 21 t21_11) 22 t22_12) 3 t20_10) 4 t21_11) 5
  t22_12) 6 (.slice none 0 0)) 7 (.int .i64 0)) H Q33) (fn [(.t 2)] R)) fun Q7 => cnd t16_6 (fun Q34 => Q34 .ret (upd (upd (upd (upd e4 14 (e4 0)) 15 t15_5) 16 t16_6) 2
  (.bool true)) H) (fun Q35 => Q35 .normal (upd (upd (upd e4 14 (e4 0)) 15 t15_5) 16 t16_6) H) Q7) (fn [(.t 2)] R)) fun Q3 => cnd t13_2 (fun Q36 => Q36 .ret (upd (upd
  (upd (upd (Env.get [a0]) 2 (.bool false)) 12 t12_1) 13 t13_2) 2 (.bool false)) H) (fun Q37 => Q37 .normal (upd (upd (upd (Env.get [a0]) 2 (.bool false)) 12 t12_1) 13
  t13_2) H) Q3
theorem h5 (S : Sys) (a0 : Value) (H : Heap) (R : Kv) : wpC S k5.body (Env.get [a0]) H (fn [(.t 2)] R) = s5 S a0 H R := by kernel_rfl
theorem w5 {S : Sys} (hR : S.R 5 = none) (hF : S.F 5 = some k5) (a0 : Value) {H : Heap} {R : Kv} (h : s5 S a0 H R) : Wf S 5 [a0] H R := Wf_sh hR hF ((h5 S a0 H R).mpr h)
def s6 (S : Sys) (a0 a1 a2 : Value) (H : Heap) (R : Kv) : Prop := run S (.call 31 []) [] H fun t13_1 H => run S (.un .not (.c t13_1)) [] H fun t14_2 H => jn (sq (fun e4
  H => run S (.lenL (.c (e4 0))) [] H fun t16_5 H => run S (.bin .gtr (.c t16_5) (.c (.int .i64 256))) [] H fun t17_6 H => gd t17_6 false (run S (.mv (.c (e4 1))) [] H)
  H fun t19_7 H => gd t17_6 false (run S (.lenS (.c t19_7)) [] H) H fun t20_8 H => gd t17_6 false (run S (.bin .gtr (.c t20_8) (.c (.int .i64 60))) [] H) H fun t21_9 H
  => run S (.pick (.c t17_6) (.c (.bool true)) (.c t21_9)) [] H fun t22_10 H => gd t22_10 false (run S (.mv (.c (e4 2))) [] H) H fun t24_11 H => gd t22_10 false (run S
  (.bin .gtr (.c t24_11) (.c (.int .i64 300))) [] H) H fun t25_12 H => gd t22_10 false (run S (.mv (.c t25_12)) [] H) H fun t26_13 H => gd t26_13 true (run S (.mv (.c
  (e4 2))) [] H) H fun t27_14 H => gd t26_13 true (run S (.bin .leq (.c t27_14) (.c (.int .i64 1048576))) [] H) H fun t28_15 H => gd t22_10 false (run S (.pick (.c
  t26_13) (.c t28_15) (.c (.bool false))) [] H) H fun t29_16 H => run S (.pick (.c t22_10) (.c (.bool true)) (.c t29_16)) [] H fun t30_17 H => gd t30_17 false (run S
  (.mv (.c (e4 0))) [] H) H fun t32_18 H => gd t30_17 false (run S (.call 32 [(.c t32_18)]) [] H) H fun t33_19 H => gd t30_17 false (run S (.un .not (.c t33_19)) [] H) H
  fun t34_20 H => run S (.pick (.c t30_17) (.c (.bool true)) (.c t34_20)) [] H fun t35_21 H => jn (sq (fun e23 H => run S (.call 33 [(.c (e23 0)), (.c (e23 1)), (.c (e23
  2))]) [] H fun t40_24 H => run S (.xt (.c t40_24) 0) [] H fun t41_25 H => run S (.xt (.c t40_24) 1) [] H fun t42_26 H => run S (.bin .lss (.c (e23 2)) (.c (.int .i64
  0))) [] H fun t44_27 H => gd t44_27 false (run S (.mv (.c (e23 2))) [] H) H fun t46_28 H => gd t44_27 false (run S (.bin .gtr (.c t46_28) (.c (.int .i64 1048576))) []
  H) H fun t47_29 H => run S (.pick (.c t44_27) (.c (.bool true)) (.c t47_29)) [] H fun t48_30 H => jn (sq (fun e32 H => run S (.call 34 [(.c (e32 0)), (.c (e32 1)), (.c
  (e32 2))]) [] H fun t60_33 H => run S (.xt (.c t60_33) 0) [] H fun t61_34 H => run S (.xt (.c t60_33) 1) [] H fun t62_35 H => run S (.eqv (.s .bool) true (.c (e32 8))
  (.c t62_35)) [] H fun t65_36 H => gd t65_36 false (run S (.mv (.c (e32 7))) [] H) H fun t67_37 H => gd t65_36 false (run S (.b2s 5 (.c t67_37)) [] H) H fun t68_38 H =>
  gd t65_36 false (run S (.mv (.c t61_34)) [] H) H fun t69_39 H => gd t65_36 false (run S (.b2s 5 (.c t69_39)) [] H) H fun t70_40 H => gd t65_36 false (run S (.bin .neq
  (.c t68_38) (.c t70_40)) [] H) H fun t71_41 H => run S (.pick (.c t65_36) (.c (.bool true)) (.c t71_41)) [] H fun t72_42 H => jn (sq (fun e44 H => run S (.un .not (.c
  (e44 8))) [] H fun t74_45 H => jn (sq (fun e47 H => run S (.call 35 [(.c (e47 0)), (.c (e47 7))]) [] H fun t78_48 H => run S (.xt (.c t78_48) 0) [] H fun t79_49 H =>
  run S (.xt (.c t78_48) 1) [] H fun t80_50 H => gd t80_50 true (run S (.mv (.c t79_49)) [] H) H fun t83_51 H => gd t80_50 true (run S (.mv (.c (e47 1))) [] H) H fun
  t84_52 H => gd t80_50 true (run S (.bin .eql (.c t83_51) (.c t84_52)) [] H) H fun t85_53 H => run S (.pick (.c t80_50) (.c t85_53) (.c (.bool false))) [] H fun t86_54
  H => R t86_54 H) (fn [(.t 6)] R)) fun Q46 => cnd t74_45 (fun Q55 => Q55 .ret (upd (upd (upd e44 73 (e44 8)) 74 t74_45) 6 (.bool true)) H) (fun Q56 => Q56 .normal (upd
  (upd e44 73 (e44 8)) 74 t74_45) H) Q46) (fn [(.t 6)] R)) fun Q43 => cnd t72_42 (fun Q57 => Q57 .ret (upd (upd (upd (upd (upd (upd (upd (upd (upd (upd (upd (upd (upd
  (upd (upd (upd (upd (upd (upd (upd e32 57 (e32 0)) 58 (e32 1)) 59 (e32 2)) 60 t60_33) 56 t60_33) 61 t61_34) 62 t62_35) 9 t61_34) 10 t62_35) 63 (e32 8)) 64 t62_35) 65
  t65_36) 66 t65_36) 67 t67_37) 68 t68_38) 69 t69_39) 70 t70_40) 71 t71_41) 72 t72_42) 6 (.bool false)) H) (fun Q58 => Q58 .normal (upd (upd (upd (upd (upd (upd (upd
  (upd (upd (upd (upd (upd (upd (upd (upd (upd (upd (upd (upd e32 57 (e32 0)) 58 (e32 1)) 59 (e32 2)) 60 t60_33) 56 t60_33) 61 t61_34) 62 t62_35) 9 t61_34) 10 t62_35) 63
  (e32 8)) 64 t62_35) 65 t65_36) 66 t65_36) 67 t67_37) 68 t68_38) 69 t69_39) 70 t70_40) 71 t71_41) 72 t72_42) H) Q43) (fn [(.t 6)] R)) fun Q31 => cnd t48_30 (fun Q59 =>
  run S (.un .not (.c t42_26)) [] H fun t50_61 H => gd t50_61 true (run S (.mv (.c t41_25)) [] H) H fun t52_62 H => gd t50_61 true (run S (.lenL (.c t52_62)) [] H) H fun
  t53_63 H => gd t50_61 true (run S (.bin .eql (.c t53_63) (.c (.int .i64 0))) [] H) H fun t54_64 H => run S (.pick (.c t50_61) (.c t54_64) (.c (.bool false))) [] H fun
  t55_65 H => Q59 .ret (upd (upd (upd (upd (upd (upd (upd (upd (upd (upd (upd (upd (upd (upd (upd (upd (upd (upd (upd (upd (upd (upd (upd e23 37 (e23 0)) 38 (e23 1)) 39
  (e23 2)) 40 t40_24) 36 t40_24) 41 t41_25) 42 t42_26) 7 t41_25) 8 t42_26) 43 (e23 2)) 44 t44_27) 45 t44_27) 46 t46_28) 47 t47_29) 48 t48_30) 49 t42_26) 50 t50_61) 51
  t50_61) 52 t52_62) 53 t53_63) 54 t54_64) 55 t55_65) 6 t55_65) H) (fun Q60 => Q60 .normal (upd (upd (upd (upd (upd (upd (upd (upd (upd (upd (upd (upd (upd (upd (upd e23
  37 (e23 0)) 38 (e23 1)) 39 (e23 2)) 40 t40_24) 36 t40_24) 41 t41_25) 42 t42_26) 7 t41_25) 8 t42_26) 43 (e23 2)) 44 t44_27) 45 t44_27) 46 t46_28) 47 t47_29) 48 t48_30)
  H) Q31) (fn [(.t 6)] R)) fun Q22 => cnd t35_21 (fun Q66 => Q66 .ret (upd (upd (upd (upd (upd (upd (upd (upd (upd (upd (upd (upd (upd (upd (upd (upd (upd (upd (upd (upd
  (upd (upd e4 15 (e4 0)) 16 t16_5) 17 t17_6) 18 t17_6) 19 t19_7) 20 t20_8) 21 t21_9) 22 t22_10) 23 t22_10) 24 t24_11) 25 t25_12) 26 t26_13) 27 t27_14) 28 t28_15) 29
  t29_16) 30 t30_17) 31 t30_17) 32 t32_18) 33 t33_19) 34 t34_20) 35 t35_21) 6 (.bool true)) H) (fun Q67 => Q67 .normal (upd (upd (upd (upd (upd (upd (upd (upd (upd (upd
  (upd (upd (upd (upd (upd (upd (upd (upd (upd (upd (upd e4 15 (e4 0)) 16 t16_5) 17 t17_6) 18 t17_6) 19 t19_7) 20 t20_8) 21 t21_9) 22 t22_10) 23 t22_10) 24 t24_11) 25
  t25_12) 26 t26_13) 27 t27_14) 28 t28_15) 29 t29_16) 30 t30_17) 31 t30_17) 32 t32_18) 33 t33_19) 34 t34_20) 35 t35_21) H) Q22) (fn [(.t 6)] R)) fun Q3 => cnd t14_2 (fun
  Q68 => Q68 .ret (upd (upd (upd (upd (Env.get [a0, a1, a2]) 6 (.bool false)) 13 t13_1) 14 t14_2) 6 (.bool false)) H) (fun Q69 => Q69 .normal (upd (upd (upd (Env.get
  [a0, a1, a2]) 6 (.bool false)) 13 t13_1) 14 t14_2) H) Q3
theorem h6 (S : Sys) (a0 a1 a2 : Value) (H : Heap) (R : Kv) : wpC S k6.body (Env.get [a0, a1, a2]) H (fn [(.t 6)] R) = s6 S a0 a1 a2 H R := by kernel_rfl
theorem w6 {S : Sys} (hR : S.R 6 = none) (hF : S.F 6 = some k6) (a0 a1 a2 : Value) {H : Heap} {R : Kv} (h : s6 S a0 a1 a2 H R) : Wf S 6 [a0, a1, a2] H R := Wf_sh hR hF
  ((h6 S a0 a1 a2 H R).mpr h)
def s7 (S : Sys) (a0 a1 : Value) (H : Heap) (R : Kv) : Prop := run S (.call 31 []) [] H fun t15_1 H => run S (.un .not (.c t15_1)) [] H fun t16_2 H => jn (sq (fun e4 H
  => run S (.lenL (.c (e4 0))) [] H fun t18_5 H => run S (.bin .gtr (.c t18_5) (.c (.int .i64 256))) [] H fun t19_6 H => gd t19_6 false (run S (.mv (.c (e4 1))) [] H) H
  fun t21_7 H => gd t19_6 false (run S (.lenL (.c t21_7)) [] H) H fun t22_8 H => gd t19_6 false (run S (.bin .gtr (.c t22_8) (.c (.int .i64 100))) [] H) H fun t23_9 H =>
  run S (.pick (.c t19_6) (.c (.bool true)) (.c t23_9)) [] H fun t24_10 H => jn (sq (fun e12 H => run S (.call 35 [(.c (e12 0)), (.c (e12 1))]) [] H fun t28_13 H => run
  S (.xt (.c t28_13) 0) [] H fun t29_14 H => run S (.xt (.c t28_13) 1) [] H fun t30_15 H => run S (.call 32 [(.c (e12 0))]) [] H fun t32_16 H => run S (.un .not (.c
  t32_16)) [] H fun t33_17 H => jn (sq (fun e19 H => run S (.call 37 [(.c (e19 0)), (.c (e19 1))]) [] H fun t72_20 H => run S (.xt (.c t72_20) 0) [] H fun t73_21 H =>
  run S (.xt (.c t72_20) 1) [] H fun t74_22 H => run S (.eqv (.s .bool) true (.c (e19 6)) (.c t74_22)) [] H fun t77_23 H => gd t77_23 false (run S (.mv (.c (e19 5))) []
  H) H fun t79_24 H => gd t77_23 false (run S (.mv (.c t73_21)) [] H) H fun t80_25 H => gd t77_23 false (run S (.bin .neq (.c t79_24) (.c t80_25)) [] H) H fun t81_26 H
  => run S (.pick (.c t77_23) (.c (.bool true)) (.c t81_26)) [] H fun t82_27 H => jn (sq (fun e29 H => run S (.un .not (.c (e29 6))) [] H fun t84_30 H => jn (sq (fun e32
  H => run S (.lenL (.c (e32 1))) [] H fun t89_33 H => run S (.call 33 [(.c (e32 0)), (.c (e32 5)), (.c t89_33)]) [] H fun t90_34 H => run S (.xt (.c t90_34) 0) [] H fun
  t91_35 H => run S (.xt (.c t90_34) 1) [] H fun t92_36 H => gd t92_36 true (run S (.mv (.c t91_35)) [] H) H fun t95_37 H => gd t92_36 true (run S (.b2s 5 (.c t95_37))
  [] H) H fun t96_38 H => gd t92_36 true (run S (.mv (.c (e32 1))) [] H) H fun t97_39 H => gd t92_36 true (run S (.b2s 5 (.c t97_39)) [] H) H fun t98_40 H => gd t92_36
  true (run S (.bin .eql (.c t96_38) (.c t98_40)) [] H) H fun t99_41 H => run S (.pick (.c t92_36) (.c t99_41) (.c (.bool false))) [] H fun t100_42 H => R t100_42 H) (fn
  [(.t 4)] R)) fun Q31 => cnd t84_30 (fun Q43 => Q43 .ret (upd (upd (upd e29 83 (e29 6)) 84 t84_30) 4 (.bool true)) H) (fun Q44 => Q44 .normal (upd (upd e29 83 (e29 6))
  84 t84_30) H) Q31) (fn [(.t 4)] R)) fun Q28 => cnd t82_27 (fun Q45 => Q45 .ret (upd (upd (upd (upd (upd (upd (upd (upd (upd (upd (upd (upd (upd (upd (upd (upd (upd e19
  70 (e19 0)) 71 (e19 1)) 72 t72_20) 69 t72_20) 73 t73_21) 74 t74_22) 11 t73_21) 12 t74_22) 75 (e19 6)) 76 t74_22) 77 t77_23) 78 t77_23) 79 t79_24) 80 t80_25) 81 t81_26)
  82 t82_27) 4 (.bool false)) H) (fun Q46 => Q46 .normal (upd (upd (upd (upd (upd (upd (upd (upd (upd (upd (upd (upd (upd (upd (upd (upd e19 70 (e19 0)) 71 (e19 1)) 72
  t72_20) 69 t72_20) 73 t73_21) 74 t74_22) 11 t73_21) 12 t74_22) 75 (e19 6)) 76 t74_22) 77 t77_23) 78 t77_23) 79 t79_24) 80 t80_25) 81 t81_26) 82 t82_27) H) Q28) (fn
  [(.t 4)] R)) fun Q18 => cnd t33_17 (fun Q47 => run S (.call 36 [(.c (e12 0))]) [] H fun t36_49 H => run S (.xt (.c t36_49) 0) [] H fun t37_50 H => run S (.xt (.c
  t36_49) 1) [] H fun t38_51 H => run S (.b2s 5 (.c (e12 1))) [] H fun t42_52 H => run S (.call 33 [(.c (e12 0)), (.c t42_52), (.c (.int .i64 1))]) [] H fun t43_53 H =>
  run S (.xt (.c t43_53) 0) [] H fun t44_54 H => run S (.xt (.c t43_53) 1) [] H fun t45_55 H => run S (.un .not (.c t30_15)) [] H fun t47_56 H => gd t47_56 true (run S
  (.mv (.c t29_14)) [] H) H fun t49_57 H => gd t47_56 true (run S (.bin .eql (.c t49_57) (.c (.string (bs [])))) [] H) H fun t50_58 H => run S (.pick (.c t47_56) (.c
  t50_58) (.c (.bool false))) [] H fun t51_59 H => gd t51_59 true (run S (.mv (.c t38_51)) [] H) H fun t53_60 H => gd t51_59 true (run S (.un .not (.c t53_60)) [] H) H
  fun t54_61 H => run S (.pick (.c t51_59) (.c t54_61) (.c (.bool false))) [] H fun t55_62 H => gd t55_62 true (run S (.mv (.c t37_50)) [] H) H fun t57_63 H => gd t55_62
  true (run S (.bin .eql (.c t57_63) (.c (.string (bs [])))) [] H) H fun t58_64 H => run S (.pick (.c t55_62) (.c t58_64) (.c (.bool false))) [] H fun t59_65 H => gd
  t59_65 true (run S (.mv (.c t45_55)) [] H) H fun t61_66 H => gd t59_65 true (run S (.un .not (.c t61_66)) [] H) H fun t62_67 H => run S (.pick (.c t59_65) (.c t62_67)
  (.c (.bool false))) [] H fun t63_68 H => gd t63_68 true (run S (.mv (.c t44_54)) [] H) H fun t65_69 H => gd t63_68 true (run S (.lenL (.c t65_69)) [] H) H fun t66_70 H
  => gd t63_68 true (run S (.bin .eql (.c t66_70) (.c (.int .i64 0))) [] H) H fun t67_71 H => run S (.pick (.c t63_68) (.c t67_71) (.c (.bool false))) [] H fun t68_72 H
  => Q47 .ret (upd (upd (upd (upd (upd (upd (upd (upd (upd (upd (upd (upd (upd (upd (upd (upd (upd (upd (upd (upd (upd (upd (upd (upd (upd (upd (upd (upd (upd (upd (upd
  (upd (upd (upd (upd (upd (upd (upd (upd (upd (upd (upd (upd (upd (upd (upd (upd (upd (upd (upd (upd e12 26 (e12 0)) 27 (e12 1)) 28 t28_13) 25 t28_13) 29 t29_14) 30
  t30_15) 5 t29_14) 6 t30_15) 31 (e12 0)) 32 t32_16) 33 t33_17) 35 (e12 0)) 36 t36_49) 34 t36_49) 37 t37_50) 38 t38_51) 7 t37_50) 8 t38_51) 40 (e12 0)) 41 (e12 1)) 42
  t42_52) 43 t43_53) 39 t43_53) 44 t44_54) 45 t45_55) 9 t44_54) 10 t45_55) 46 t30_15) 47 t47_56) 48 t47_56) 49 t49_57) 50 t50_58) 51 t51_59) 52 t51_59) 53 t53_60) 54
  t54_61) 55 t55_62) 56 t55_62) 57 t57_63) 58 t58_64) 59 t59_65) 60 t59_65) 61 t61_66) 62 t62_67) 63 t63_68) 64 t63_68) 65 t65_69) 66 t66_70) 67 t67_71) 68 t68_72) 4
  t68_72) H) (fun Q48 => Q48 .normal (upd (upd (upd (upd (upd (upd (upd (upd (upd (upd (upd e12 26 (e12 0)) 27 (e12 1)) 28 t28_13) 25 t28_13) 29 t29_14) 30 t30_15) 5
  t29_14) 6 t30_15) 31 (e12 0)) 32 t32_16) 33 t33_17) H) Q18) (fn [(.t 4)] R)) fun Q11 => cnd t24_10 (fun Q73 => Q73 .ret (upd (upd (upd (upd (upd (upd (upd (upd (upd e4
  17 (e4 0)) 18 t18_5) 19 t19_6) 20 t19_6) 21 t21_7) 22 t22_8) 23 t23_9) 24 t24_10) 4 (.bool true)) H) (fun Q74 => Q74 .normal (upd (upd (upd (upd (upd (upd (upd (upd e4
  17 (e4 0)) 18 t18_5) 19 t19_6) 20 t19_6) 21 t21_7) 22 t22_8) 23 t23_9) 24 t24_10) H) Q11) (fn [(.t 4)] R)) fun Q3 => cnd t16_2 (fun Q75 => Q75 .ret (upd (upd (upd (upd
  (Env.get [a0, a1]) 4 (.bool false)) 15 t15_1) 16 t16_2) 4 (.bool false)) H) (fun Q76 => Q76 .normal (upd (upd (upd (Env.get [a0, a1]) 4 (.bool false)) 15 t15_1) 16
  t16_2) H) Q3
theorem h7 (S : Sys) (a0 a1 : Value) (H : Heap) (R : Kv) : wpC S k7.body (Env.get [a0, a1]) H (fn [(.t 4)] R) = s7 S a0 a1 H R := by kernel_rfl
theorem w7 {S : Sys} (hR : S.R 7 = none) (hF : S.F 7 = some k7) (a0 a1 : Value) {H : Heap} {R : Kv} (h : s7 S a0 a1 H R) : Wf S 7 [a0, a1] H R := Wf_sh hR hF ((h7 S a0
  a1 H R).mpr h)
def s8 (S : Sys) (a0 a1 : Value) (H : Heap) (R : Kv) : Prop := run S (.call 31 []) [] H fun t15_1 H => run S (.un .not (.c t15_1)) [] H fun t16_2 H => jn (sq (fun e4 H
  => run S (.lenL (.c (e4 0))) [] H fun t18_5 H => run S (.bin .gtr (.c t18_5) (.c (.int .i64 256))) [] H fun t19_6 H => gd t19_6 false (run S (.mv (.c (e4 1))) [] H) H
  fun t21_7 H => gd t19_6 false (run S (.lenS (.c t21_7)) [] H) H fun t22_8 H => gd t19_6 false (run S (.bin .gtr (.c t22_8) (.c (.int .i64 200))) [] H) H fun t23_9 H =>
  run S (.pick (.c t19_6) (.c (.bool true)) (.c t23_9)) [] H fun t24_10 H => jn (sq (fun e12 H => run S (.call 36 [(.c (e12 0))]) [] H fun t27_13 H => run S (.xt (.c
  t27_13) 0) [] H fun t28_14 H => run S (.xt (.c t27_13) 1) [] H fun t29_15 H => run S (.call 32 [(.c (e12 0))]) [] H fun t32_16 H => run S (.eqv (.s .bool) true (.c
  t29_15) (.c t32_16)) [] H fun t33_17 H => jn (sq (fun e19 H => jn (sq (fun e21 H => run S (.call 38 [(.c (e21 1))]) [] H fun t64_22 H => run S (.call 39 [(.c t64_22)])
  [] H fun t67_23 H => run S (.xt (.c t67_23) 0) [] H fun t68_24 H => run S (.xt (.c t67_23) 1) [] H fun t69_25 H => run S (.call 44 [(.c (e21 1))]) [] H fun t72_26 H =>
  run S (.xt (.c t72_26) 0) [] H fun t73_27 H => run S (.xt (.c t72_26) 1) [] H fun t74_28 H => run S (.bin .gtr (.c t74_28) (.c (.int .i64 0))) [] H fun t77_29 H => run
  S (.eqv (.s .bool) true (.c t69_25) (.c t77_29)) [] H fun t78_30 H => gd t78_30 false (run S (.mv (.c t68_24)) [] H) H fun t80_31 H => gd t78_30 false (run S (.mv (.c
  t73_27)) [] H) H fun t81_32 H => gd t78_30 false (run S (.call 41 [(.c t80_31), (.c t81_32)]) [] H) H fun t82_33 H => gd t78_30 false (run S (.un .not (.c t82_33)) []
  H) H fun t83_34 H => run S (.pick (.c t78_30) (.c (.bool true)) (.c t83_34)) [] H fun t84_35 H => jn (sq (fun e37 H => run S (.un .not (.c (e37 12))) [] H fun t86_38 H
  => gd t86_38 false (run S (.mv (.c (e37 10))) [] H) H fun t88_39 H => gd t86_38 false (run S (.mv (.c (e37 1))) [] H) H fun t90_40 H => gd t86_38 false (run S (.mv (.c
  (e37 14))) [] H) H fun t91_41 H => gd t86_38 false (run S (.slS (.c t90_40) (some (.c t91_41)) none) [] H) H fun t92_42 H => gd t86_38 false (run S (.call 43 [(.c
  t88_39)]) [] H) H fun t89_43 H => gd t86_38 false (run S (.bin .eql (.c t89_43) (.c t92_42)) [] H) H fun t93_44 H => run S (.pick (.c t86_38) (.c (.bool true)) (.c
  t93_44)) [] H fun t94_45 H => R t94_45 H) (fn [(.t 4)] R)) fun Q36 => cnd t84_35 (fun Q46 => Q46 .ret (upd (upd (upd (upd (upd (upd (upd (upd (upd (upd (upd (upd (upd
  (upd (upd (upd (upd (upd (upd (upd (upd (upd (upd (upd (upd (upd (upd (upd e21 63 (e21 1)) 64 t64_22) 10 t64_22) 66 t64_22) 67 t67_23) 65 t67_23) 68 t68_24) 69 t69_25)
  11 t68_24) 12 t69_25) 71 (e21 1)) 72 t72_26) 70 t72_26) 73 t73_27) 74 t74_28) 13 t73_27) 14 t74_28) 75 t69_25) 76 t74_28) 77 t77_29) 78 t78_30) 79 t78_30) 80 t80_31)
  81 t81_32) 82 t82_33) 83 t83_34) 84 t84_35) 4 (.bool false)) H) (fun Q47 => Q47 .normal (upd (upd (upd (upd (upd (upd (upd (upd (upd (upd (upd (upd (upd (upd (upd (upd
  (upd (upd (upd (upd (upd (upd (upd (upd (upd (upd (upd e21 63 (e21 1)) 64 t64_22) 10 t64_22) 66 t64_22) 67 t67_23) 65 t67_23) 68 t68_24) 69 t69_25) 11 t68_24) 12
  t69_25) 71 (e21 1)) 72 t72_26) 70 t72_26) 73 t73_27) 74 t74_28) 13 t73_27) 14 t74_28) 75 t69_25) 76 t74_28) 77 t77_29) 78 t78_30) 79 t78_30) 80 t80_31) 81 t81_32) 82
  t82_33) 83 t83_34) 84 t84_35) H) Q36) (fn [(.t 4)] R)) fun Q20 => cnd (e19 6) (fun Q48 => run S (.bin .add (.c (e19 5)) (.c (.string (bs [120])))) [] H fun t36_50 H =>
  run S (.call 38 [(.c t36_50)]) [] H fun t37_51 H => run S (.call 39 [(.c t37_51)]) [] H fun t40_52 H => run S (.xt (.c t40_52) 0) [] H fun t41_53 H => run S (.xt (.c
  t40_52) 1) [] H fun t42_54 H => run S (.call 40 [(.c (e19 0))]) [] H fun t45_55 H => run S (.bin .neq (.c (e19 5)) (.c t45_55)) [] H fun t46_56 H => gd t46_56 false
  (run S (.mv (.c t42_54)) [] H) H fun t48_57 H => gd t46_56 false (run S (.un .not (.c t48_57)) [] H) H fun t49_58 H => run S (.pick (.c t46_56) (.c (.bool true)) (.c
  t49_58)) [] H fun t50_59 H => gd t50_59 false (run S (.mv (.c t41_53)) [] H) H fun t52_60 H => gd t50_59 false (run S (.mv (.c (e19 0))) [] H) H fun t53_61 H => gd
  t50_59 false (run S (.call 42 [(.c t53_61)]) [] H) H fun t54_62 H => gd t50_59 false (run S (.call 41 [(.c t52_60), (.c t54_62)]) [] H) H fun t55_63 H => gd t50_59
  false (run S (.un .not (.c t55_63)) [] H) H fun t56_64 H => run S (.pick (.c t50_59) (.c (.bool true)) (.c t56_64)) [] H fun t57_65 H => gd t57_65 false (run S (.mv
  (.c t37_51)) [] H) H fun t59_66 H => gd t57_65 false (run S (.call 43 [(.c t59_66)]) [] H) H fun t60_67 H => gd t57_65 false (run S (.bin .neq (.c t60_67) (.c (.string
  (bs [120])))) [] H) H fun t61_68 H => run S (.pick (.c t57_65) (.c (.bool true)) (.c t61_68)) [] H fun t62_69 H => cnd t62_69 (fun Q70 => Q70 .ret (upd (upd (upd (upd
  (upd (upd (upd (upd (upd (upd (upd (upd (upd (upd (upd (upd (upd (upd (upd (upd (upd (upd (upd (upd (upd (upd (upd (upd (upd (upd (upd (upd (upd e19 34 (e19 6)) 35
  (e19 5)) 36 t36_50) 37 t37_51) 7 t37_51) 39 t37_51) 40 t40_52) 38 t40_52) 41 t41_53) 42 t42_54) 8 t41_53) 9 t42_54) 43 (e19 5)) 44 (e19 0)) 45 t45_55) 46 t46_56) 47
  t46_56) 48 t48_57) 49 t49_58) 50 t50_59) 51 t50_59) 52 t52_60) 53 t53_61) 54 t54_62) 55 t55_63) 56 t56_64) 57 t57_65) 58 t57_65) 59 t59_66) 60 t60_67) 61 t61_68) 62
  t62_69) 4 (.bool false)) H) (fun Q71 => Q71 .normal (upd (upd (upd (upd (upd (upd (upd (upd (upd (upd (upd (upd (upd (upd (upd (upd (upd (upd (upd (upd (upd (upd (upd
  (upd (upd (upd (upd (upd (upd (upd (upd (upd e19 34 (e19 6)) 35 (e19 5)) 36 t36_50) 37 t37_51) 7 t37_51) 39 t37_51) 40 t40_52) 38 t40_52) 41 t41_53) 42 t42_54) 8
  t41_53) 9 t42_54) 43 (e19 5)) 44 (e19 0)) 45 t45_55) 46 t46_56) 47 t46_56) 48 t48_57) 49 t49_58) 50 t50_59) 51 t50_59) 52 t52_60) 53 t53_61) 54 t54_62) 55 t55_63) 56
  t56_64) 57 t57_65) 58 t57_65) 59 t59_66) 60 t60_67) 61 t61_68) 62 t62_69) H) Q48) (fun Q49 => Q49 .normal (upd e19 34 (e19 6)) H) Q20) (fn [(.t 4)] R)) fun Q18 => cnd
  t33_17 (fun Q72 => Q72 .ret (upd (upd (upd (upd (upd (upd (upd (upd (upd (upd (upd (upd e12 26 (e12 0)) 27 t27_13) 25 t27_13) 28 t28_14) 29 t29_15) 5 t28_14) 6 t29_15)
  30 t29_15) 31 (e12 0)) 32 t32_16) 33 t33_17) 4 (.bool false)) H) (fun Q73 => Q73 .normal (upd (upd (upd (upd (upd (upd (upd (upd (upd (upd (upd e12 26 (e12 0)) 27
  t27_13) 25 t27_13) 28 t28_14) 29 t29_15) 5 t28_14) 6 t29_15) 30 t29_15) 31 (e12 0)) 32 t32_16) 33 t33_17) H) Q18) (fn [(.t 4)] R)) fun Q11 => cnd t24_10 (fun Q74 =>
  Q74 .ret (upd (upd (upd (upd (upd (upd (upd (upd (upd e4 17 (e4 0)) 18 t18_5) 19 t19_6) 20 t19_6) 21 t21_7) 22 t22_8) 23 t23_9) 24 t24_10) 4 (.bool true)) H) (fun Q75
  => Q75 .normal (upd (upd (upd (upd (upd (upd (upd (upd e4 17 (e4 0)) 18 t18_5) 19 t19_6) 20 t19_6) 21 t21_7) 22 t22_8) 23 t23_9) 24 t24_10) H) Q11) (fn [(.t 4)] R))
  fun Q3 => cnd t16_2 (fun Q76 => Q76 .ret (upd (upd (upd (upd (Env.get [a0, a1]) 4 (.bool false)) 15 t15_1) 16 t16_2) 4 (.bool false)) H) (fun Q77 => Q77 .normal (upd
  (upd (upd (Env.get [a0, a1]) 4 (.bool false)) 15 t15_1) 16 t16_2) H) Q3
theorem h8 (S : Sys) (a0 a1 : Value) (H : Heap) (R : Kv) : wpC S k8.body (Env.get [a0, a1]) H (fn [(.t 4)] R) = s8 S a0 a1 H R := by kernel_rfl
theorem w8 {S : Sys} (hR : S.R 8 = none) (hF : S.F 8 = some k8) (a0 a1 : Value) {H : Heap} {R : Kv} (h : s8 S a0 a1 H R) : Wf S 8 [a0, a1] H R := Wf_sh hR hF ((h8 S a0
  a1 H R).mpr h)
def s13 (S : Sys) (a0 : Value) (H : Heap) (R : Kv) : Prop := run S (.call 66 []) [] H fun t6_1 H => run S (.un .not (.c t6_1)) [] H fun t7_2 H => jn (sq (fun e4 H => run
  S (.lenL (.c (e4 0))) [] H fun t9_5 H => run S (.bin .gtr (.c t9_5) (.c (.int .i64 300))) [] H fun t10_6 H => jn (sq (fun e8 H => run S (.call 32 [(.c (e8 0))]) [] H
  fun t12_9 H => run S (.call 67 [(.c (e8 0))]) [] H fun t15_10 H => run S (.xt (.c t15_10) 0) [] H fun t16_11 H => run S (.xt (.c t15_10) 1) [] H fun t17_12 H => run S
  (.call 68 [(.c (e8 0))]) [] H fun t19_13 H => run S (.eqv (.s .bool) true (.c t19_13) (.c t12_9)) [] H fun t21_14 H => gd t21_14 false (run S (.mv (.c t17_12)) [] H) H
  fun t23_15 H => gd t21_14 false (run S (.mv (.c t12_9)) [] H) H fun t24_16 H => gd t21_14 false (run S (.eqv (.s .bool) true (.c t23_15) (.c t24_16)) [] H) H fun
  t25_17 H => run S (.pick (.c t21_14) (.c (.bool true)) (.c t25_17)) [] H fun t26_18 H => jn (sq (fun e20 H => run S (.un .not (.c (e20 3))) [] H fun t28_21 H => jn (sq
  (fun e23 H => run S (.call 70 [(.c (e23 0))]) [] H fun t34_24 H => run S (.call 69 [(.c (e23 4)), (.c t34_24)]) [] H fun t35_25 H => R t35_25 H) (fn [(.t 2)] R)) fun
  Q22 => cnd t28_21 (fun Q26 => run S (.lenL (.c (e20 4))) [] H fun t30_28 H => run S (.bin .eql (.c t30_28) (.c (.int .i64 0))) [] H fun t31_29 H => Q26 .ret (upd (upd
  (upd (upd (upd (upd e20 27 (e20 3)) 28 t28_21) 29 (e20 4)) 30 t30_28) 31 t31_29) 2 t31_29) H) (fun Q27 => Q27 .normal (upd (upd e20 27 (e20 3)) 28 t28_21) H) Q22) (fn
  [(.t 2)] R)) fun Q19 => cnd t26_18 (fun Q30 => Q30 .ret (upd (upd (upd (upd (upd (upd (upd (upd (upd (upd (upd (upd (upd (upd (upd (upd (upd (upd (upd (upd e8 11 (e8
  0)) 12 t12_9) 3 t12_9) 14 (e8 0)) 15 t15_10) 13 t15_10) 16 t16_11) 17 t17_12) 4 t16_11) 5 t17_12) 18 (e8 0)) 19 t19_13) 20 t12_9) 21 t21_14) 22 t21_14) 23 t23_15) 24
  t24_16) 25 t25_17) 26 t26_18) 2 (.bool false)) H) (fun Q31 => Q31 .normal (upd (upd (upd (upd (upd (upd (upd (upd (upd (upd (upd (upd (upd (upd (upd (upd (upd (upd
  (upd e8 11 (e8 0)) 12 t12_9) 3 t12_9) 14 (e8 0)) 15 t15_10) 13 t15_10) 16 t16_11) 17 t17_12) 4 t16_11) 5 t17_12) 18 (e8 0)) 19 t19_13) 20 t12_9) 21 t21_14) 22 t21_14)
  23 t23_15) 24 t24_16) 25 t25_17) 26 t26_18) H) Q19) (fn [(.t 2)] R)) fun Q7 => cnd t10_6 (fun Q32 => Q32 .ret (upd (upd (upd (upd e4 8 (e4 0)) 9 t9_5) 10 t10_6) 2
  (.bool true)) H) (fun Q33 => Q33 .normal (upd (upd (upd e4 8 (e4 0)) 9 t9_5) 10 t10_6) H) Q7) (fn [(.t 2)] R)) fun Q3 => cnd t7_2 (fun Q34 => Q34 .ret (upd (upd (upd
  (upd (Env.get [a0]) 2 (.bool false)) 6 t6_1) 7 t7_2) 2 (.bool false)) H) (fun Q35 => Q35 .normal (upd (upd (upd (Env.get [a0]) 2 (.bool false)) 6 t6_1) 7 t7_2) H) Q3
theorem h13 (S : Sys) (a0 : Value) (H : Heap) (R : Kv) : wpC S k13.body (Env.get [a0]) H (fn [(.t 2)] R) = s13 S a0 H R := by kernel_rfl
theorem w13 {S : Sys} (hR : S.R 13 = none) (hF : S.F 13 = some k13) (a0 : Value) {H : Heap} {R : Kv} (h : s13 S a0 H R) : Wf S 13 [a0] H R := Wf_sh hR hF ((h13 S a0 H
  R).mpr h)
def b14_1 : KCode := (.seq (.reg [(.op (some 28) none (.bin .lss (.t 27) (.t 26)))]) (.seq (.cond (.t 28) .skip (.exit 2)) (.seq (.block 3 (.seq (.reg [(.op (some 29)
  none (.mv (.t 27))), (.op (some 30) none (.iad 1 (.t 25) (.t 27))), (.op (some 31) none (.ld (.t 30))), (.op (some 7) none (.mv (.t 29))), (.op (some 8) none (.mv (.t
  31)))]) (.seq (.seq (.reg [(.op (some 32) none (.mv (.t 6))), (.op (some 33) none (.bin .eql (.t 32) (.c (.int .i64 0)))), (.op (some 34) none (.mv (.t 33))), (.op
  (some 35) (some (34, false)) (.mv (.t 8))), (.op (some 36) (some (34, false)) (.bin .eql (.t 35) (.c (.int .i64 0)))), (.op (some 37) none (.pick (.t 34) (.c (.bool
  true)) (.t 36))), (.op (some 38) none (.mv (.t 37))), (.op (some 39) (some (38, false)) (.mv (.t 6))), (.op (some 40) (some (38, false)) (.mv (.t 8))), (.op (some 41)
  (some (38, false)) (.bin .gtr (.t 39) (.t 40))), (.op (some 42) none (.pick (.t 38) (.c (.bool true)) (.t 41))), (.op (some 43) none (.mv (.t 42))), (.op (some 44)
  (some (43, false)) (.mv (.t 5))), (.op (some 45) (some (43, false)) (.mv (.t 7))), (.op (some 46) (some (43, false)) (.bin .eql (.t 44) (.t 45))), (.op (some 47) none
  (.pick (.t 43) (.c (.bool true)) (.t 46)))]) (.cond (.t 47) (.exit 3) .skip)) (.seq (.reg [(.op (some 48) none (.mv (.t 3))), (.op (some 49) none (.mv (.t 7))), (.op
  (some 50) none (.iad 1 (.t 48) (.t 49))), (.op (some 51) none (.ld (.t 50))), (.op (some 52) none (.mv (.t 8))), (.op (some 53) none (.mv (.t 6))), (.op (some 54) none
  (.bin .sub (.t 52) (.t 53))), (.op (some 55) none (.bin .shr (.t 51) (.t 54))), (.op (some 56) none (.mv (.t 3))), (.op (some 57) none (.mv (.t 5))), (.op (some 58)
  none (.iad 1 (.t 56) (.t 57))), (.op (some 59) none (.ld (.t 58))), (.op (some 60) none (.bin .eql (.t 55) (.t 59)))]) (.cond (.t 60) (.seq (.reg [(.op (some 2) none
  (.mv (.c (.bool false))))]) .ret) .skip))))) (.reg [(.op (some 61) none (.bin .add (.t 27) (.c (.int .i64 1)))), (.op (some 27) none (.mv (.t 61)))]))))
def s14_1 (S : Sys) (e : Fe) (H : Heap) (Q : Kx) : Prop := run S (.bin .lss (.c (e 27)) (.c (e 26))) [] H fun t28_52 H => jn (sq (fun e54 H => jn (sq (fun e56 H => run S
  (.bin .add (.c (e56 27)) (.c (.int .i64 1))) [] H fun t61_57 H => Q .normal (upd (upd e56 61 t61_57) 27 t61_57) H) Q) fun Q55 => run S (.iad 1 (.c (e54 25)) (.c (e54
  27))) [] H fun t30_58 H => run S (.ld (.c t30_58)) [] H fun t31_59 H => run S (.bin .eql (.c (e54 6)) (.c (.int .i64 0))) [] H fun t33_60 H => gd t33_60 false (run S
  (.mv (.c t31_59)) [] H) H fun t35_61 H => gd t33_60 false (run S (.bin .eql (.c t35_61) (.c (.int .i64 0))) [] H) H fun t36_62 H => run S (.pick (.c t33_60) (.c (.bool
  true)) (.c t36_62)) [] H fun t37_63 H => gd t37_63 false (run S (.mv (.c (e54 6))) [] H) H fun t39_64 H => gd t37_63 false (run S (.mv (.c t31_59)) [] H) H fun t40_65
  H => gd t37_63 false (run S (.bin .gtr (.c t39_64) (.c t40_65)) [] H) H fun t41_66 H => run S (.pick (.c t37_63) (.c (.bool true)) (.c t41_66)) [] H fun t42_67 H => gd
  t42_67 false (run S (.mv (.c (e54 5))) [] H) H fun t44_68 H => gd t42_67 false (run S (.mv (.c (e54 27))) [] H) H fun t45_69 H => gd t42_67 false (run S (.bin .eql (.c
  t44_68) (.c t45_69)) [] H) H fun t46_70 H => run S (.pick (.c t42_67) (.c (.bool true)) (.c t46_70)) [] H fun t47_71 H => jn (blk 3 Q55) fun Q72 => jn (sq (fun e74 H
  => run S (.iad 1 (.c (e74 3)) (.c (e74 7))) [] H fun t50_75 H => run S (.ld (.c t50_75)) [] H fun t51_76 H => run S (.bin .sub (.c (e74 8)) (.c (e74 6))) [] H fun
  t54_77 H => run S (.bin .shr (.c t51_76) (.c t54_77)) [] H fun t55_78 H => run S (.iad 1 (.c (e74 3)) (.c (e74 5))) [] H fun t58_79 H => run S (.ld (.c t58_79)) [] H
  fun t59_80 H => run S (.bin .eql (.c t55_78) (.c t59_80)) [] H fun t60_81 H => cnd t60_81 (fun Q82 => Q82 .ret (upd (upd (upd (upd (upd (upd (upd (upd (upd (upd (upd
  (upd (upd (upd e74 48 (e74 3)) 49 (e74 7)) 50 t50_75) 51 t51_76) 52 (e74 8)) 53 (e74 6)) 54 t54_77) 55 t55_78) 56 (e74 3)) 57 (e74 5)) 58 t58_79) 59 t59_80) 60 t60_81)
  2 (.bool false)) H) (fun Q83 => Q83 .normal (upd (upd (upd (upd (upd (upd (upd (upd (upd (upd (upd (upd (upd e74 48 (e74 3)) 49 (e74 7)) 50 t50_75) 51 t51_76) 52 (e74
  8)) 53 (e74 6)) 54 t54_77) 55 t55_78) 56 (e74 3)) 57 (e74 5)) 58 t58_79) 59 t59_80) 60 t60_81) H) Q72) Q72) fun Q73 => cnd t47_71 (fun Q84 => Q84 (.exit 3) (upd (upd
  (upd (upd (upd (upd (upd (upd (upd (upd (upd (upd (upd (upd (upd (upd (upd (upd (upd (upd (upd e54 29 (e54 27)) 30 t30_58) 31 t31_59) 7 (e54 27)) 8 t31_59) 32 (e54 6))
  33 t33_60) 34 t33_60) 35 t35_61) 36 t36_62) 37 t37_63) 38 t37_63) 39 t39_64) 40 t40_65) 41 t41_66) 42 t42_67) 43 t42_67) 44 t44_68) 45 t45_69) 46 t46_70) 47 t47_71) H)
  (fun Q85 => Q85 .normal (upd (upd (upd (upd (upd (upd (upd (upd (upd (upd (upd (upd (upd (upd (upd (upd (upd (upd (upd (upd (upd e54 29 (e54 27)) 30 t30_58) 31 t31_59)
  7 (e54 27)) 8 t31_59) 32 (e54 6)) 33 t33_60) 34 t33_60) 35 t35_61) 36 t36_62) 37 t37_63) 38 t37_63) 39 t39_64) 40 t40_65) 41 t41_66) 42 t42_67) 43 t42_67) 44 t44_68)
  45 t45_69) 46 t46_70) 47 t47_71) H) Q73) Q) fun Q53 => cnd t28_52 (fun Q86 => Q86 .normal (upd e 28 t28_52) H) (fun Q87 => Q87 (.exit 2) (upd e 28 t28_52) H) Q53
theorem h14_1 (S : Sys) (e : Fe) (H : Heap) (Q : Kx) : wpC S b14_1 e H Q = s14_1 S e H Q := by kernel_rfl
theorem l14_1 (S : Sys) {Q : Kx} (I : Nat → Fe → Heap → Prop) (d : Nat) {e0 : Fe} {H : Heap} (h0 : I d e0 H) (hr : ∀ (d : Nat) (e : Fe) (H : Heap), I d e H → s14_1 S e H
  (sq (fun e' H' => ∃ d', d' < d ∧ I d' e' H') Q)) : WL S b14_1 e0 H Q := WL_inv I d h0 fun d e H hi => (h14_1 S e H _).mpr (hr d e H hi)
theorem u14_1 (S : Sys) {Q : Kx} {e : Fe} {H : Heap} (h : s14_1 S e H (sq (fun e' H' => WL S b14_1 e' H' Q) Q)) : WL S b14_1 e H Q := WL_once ((h14_1 S e H _).mpr h)
def b14_0 : KCode := (.seq (.reg [(.op (some 21) none (.bin .lss (.t 20) (.t 19)))]) (.seq (.cond (.t 21) .skip (.exit 0)) (.seq (.block 1 (.seq (.reg [(.op (some 22)
  none (.mv (.t 20))), (.op (some 23) none (.iad 1 (.t 18) (.t 20))), (.op (some 24) none (.ld (.t 23))), (.op (some 5) none (.mv (.t 22))), (.op (some 6) none (.mv (.t
  24)))]) (.seq (.seq (.reg [(.op (some 25) none (.mv (.t 0))), (.op (some 26) none (.lenL (.t 25))), (.op (some 27) none (.mv (.c (.int .i64 0))))]) (.block 2 (.loop
  (.seq (.reg [(.op (some 28) none (.bin .lss (.t 27) (.t 26)))]) (.seq (.cond (.t 28) .skip (.exit 2)) (.seq (.block 3 (.seq (.reg [(.op (some 29) none (.mv (.t 27))),
  (.op (some 30) none (.iad 1 (.t 25) (.t 27))), (.op (some 31) none (.ld (.t 30))), (.op (some 7) none (.mv (.t 29))), (.op (some 8) none (.mv (.t 31)))]) (.seq (.seq
  (.reg [(.op (some 32) none (.mv (.t 6))), (.op (some 33) none (.bin .eql (.t 32) (.c (.int .i64 0)))), (.op (some 34) none (.mv (.t 33))), (.op (some 35) (some (34,
  false)) (.mv (.t 8))), (.op (some 36) (some (34, false)) (.bin .eql (.t 35) (.c (.int .i64 0)))), (.op (some 37) none (.pick (.t 34) (.c (.bool true)) (.t 36))), (.op
  (some 38) none (.mv (.t 37))), (.op (some 39) (some (38, false)) (.mv (.t 6))), (.op (some 40) (some (38, false)) (.mv (.t 8))), (.op (some 41) (some (38, false))
  (.bin .gtr (.t 39) (.t 40))), (.op (some 42) none (.pick (.t 38) (.c (.bool true)) (.t 41))), (.op (some 43) none (.mv (.t 42))), (.op (some 44) (some (43, false))
  (.mv (.t 5))), (.op (some 45) (some (43, false)) (.mv (.t 7))), (.op (some 46) (some (43, false)) (.bin .eql (.t 44) (.t 45))), (.op (some 47) none (.pick (.t 43) (.c
  (.bool true)) (.t 46)))]) (.cond (.t 47) (.exit 3) .skip)) (.seq (.reg [(.op (some 48) none (.mv (.t 3))), (.op (some 49) none (.mv (.t 7))), (.op (some 50) none (.iad
  1 (.t 48) (.t 49))), (.op (some 51) none (.ld (.t 50))), (.op (some 52) none (.mv (.t 8))), (.op (some 53) none (.mv (.t 6))), (.op (some 54) none (.bin .sub (.t 52)
  (.t 53))), (.op (some 55) none (.bin .shr (.t 51) (.t 54))), (.op (some 56) none (.mv (.t 3))), (.op (some 57) none (.mv (.t 5))), (.op (some 58) none (.iad 1 (.t 56)
  (.t 57))), (.op (some 59) none (.ld (.t 58))), (.op (some 60) none (.bin .eql (.t 55) (.t 59)))]) (.cond (.t 60) (.seq (.reg [(.op (some 2) none (.mv (.c (.bool
  false))))]) .ret) .skip))))) (.reg [(.op (some 61) none (.bin .add (.t 27) (.c (.int .i64 1)))), (.op (some 27) none (.mv (.t 61)))]))))))) (.seq (.reg [(.op (some 62)
  none (.mv (.t 6))), (.op (some 63) none (.bin .gtr (.t 62) (.c (.int .i64 0)))), (.op (some 64) none (.mv (.t 63))), (.op (some 65) (some (64, true)) (.mv (.t 3))),
  (.op (some 66) (some (64, true)) (.mv (.t 5))), (.op (some 67) (some (64, true)) (.iad 1 (.t 65) (.t 66))), (.op (some 68) (some (64, true)) (.ld (.t 67))), (.op (some
  69) (some (64, true)) (.bin .lss (.t 68) (.c (.int .i64 0)))), (.op (some 70) (some (64, true)) (.mv (.t 69))), (.op (some 71) (some (70, false)) (.mv (.t 3))), (.op
  (some 72) (some (70, false)) (.mv (.t 5))), (.op (some 73) (some (70, false)) (.iad 1 (.t 71) (.t 72))), (.op (some 74) (some (70, false)) (.ld (.t 73))), (.op (some
  75) (some (70, false)) (.mv (.t 6))), (.op (some 76) (some (70, false)) (.bin .shl (.c (.int .i64 1)) (.t 75))), (.op (some 77) (some (70, false)) (.bin .geq (.t 74)
  (.t 76))), (.op (some 78) (some (64, true)) (.pick (.t 70) (.c (.bool true)) (.t 77))), (.op (some 79) none (.pick (.t 64) (.t 78) (.c (.bool false))))]) (.cond (.t
  79) (.seq (.reg [(.op (some 2) none (.mv (.c (.bool false))))]) .ret) .skip))))) (.reg [(.op (some 80) none (.bin .add (.t 20) (.c (.int .i64 1)))), (.op (some 20)
  none (.mv (.t 80)))]))))
def s14_0 (S : Sys) (e : Fe) (H : Heap) (Q : Kx) : Prop := run S (.bin .lss (.c (e 20)) (.c (e 19))) [] H fun t21_19 H => jn (sq (fun e21 H => jn (sq (fun e23 H => run S
  (.bin .add (.c (e23 20)) (.c (.int .i64 1))) [] H fun t80_24 H => Q .normal (upd (upd e23 80 t80_24) 20 t80_24) H) Q) fun Q22 => run S (.iad 1 (.c (e21 18)) (.c (e21
  20))) [] H fun t23_25 H => run S (.ld (.c t23_25)) [] H fun t24_26 H => run S (.lenL (.c (e21 0))) [] H fun t26_27 H => jn (blk 1 Q22) fun Q28 => jn (sq (fun e30 H =>
  run S (.bin .gtr (.c (e30 6)) (.c (.int .i64 0))) [] H fun t63_31 H => gd t63_31 true (run S (.mv (.c (e30 3))) [] H) H fun t65_32 H => gd t63_31 true (run S (.mv (.c
  (e30 5))) [] H) H fun t66_33 H => gd t63_31 true (run S (.iad 1 (.c t65_32) (.c t66_33)) [] H) H fun t67_34 H => gd t63_31 true (run S (.ld (.c t67_34)) [] H) H fun
  t68_35 H => gd t63_31 true (run S (.bin .lss (.c t68_35) (.c (.int .i64 0))) [] H) H fun t69_36 H => gd t63_31 true (run S (.mv (.c t69_36)) [] H) H fun t70_37 H => gd
  t70_37 false (run S (.mv (.c (e30 3))) [] H) H fun t71_38 H => gd t70_37 false (run S (.mv (.c (e30 5))) [] H) H fun t72_39 H => gd t70_37 false (run S (.iad 1 (.c
  t71_38) (.c t72_39)) [] H) H fun t73_40 H => gd t70_37 false (run S (.ld (.c t73_40)) [] H) H fun t74_41 H => gd t70_37 false (run S (.mv (.c (e30 6))) [] H) H fun
  t75_42 H => gd t70_37 false (run S (.bin .shl (.c (.int .i64 1)) (.c t75_42)) [] H) H fun t76_43 H => gd t70_37 false (run S (.bin .geq (.c t74_41) (.c t76_43)) [] H)
  H fun t77_44 H => gd t63_31 true (run S (.pick (.c t70_37) (.c (.bool true)) (.c t77_44)) [] H) H fun t78_45 H => run S (.pick (.c t63_31) (.c t78_45) (.c (.bool
  false))) [] H fun t79_46 H => cnd t79_46 (fun Q47 => Q47 .ret (upd (upd (upd (upd (upd (upd (upd (upd (upd (upd (upd (upd (upd (upd (upd (upd (upd (upd (upd e30 62
  (e30 6)) 63 t63_31) 64 t63_31) 65 t65_32) 66 t66_33) 67 t67_34) 68 t68_35) 69 t69_36) 70 t70_37) 71 t71_38) 72 t72_39) 73 t73_40) 74 t74_41) 75 t75_42) 76 t76_43) 77
  t77_44) 78 t78_45) 79 t79_46) 2 (.bool false)) H) (fun Q48 => Q48 .normal (upd (upd (upd (upd (upd (upd (upd (upd (upd (upd (upd (upd (upd (upd (upd (upd (upd (upd e30
  62 (e30 6)) 63 t63_31) 64 t63_31) 65 t65_32) 66 t66_33) 67 t67_34) 68 t68_35) 69 t69_36) 70 t70_37) 71 t71_38) 72 t72_39) 73 t73_40) 74 t74_41) 75 t75_42) 76 t76_43)
  77 t77_44) 78 t78_45) 79 t79_46) H) Q28) Q28) fun Q29 => jn (blk 2 Q29) fun Q49 => WL S b14_1 (upd (upd (upd (upd (upd (upd (upd (upd e21 22 (e21 20)) 23 t23_25) 24
  t24_26) 5 (e21 20)) 6 t24_26) 25 (e21 0)) 26 t26_27) 27 (.int .i64 0)) H Q49) Q) fun Q20 => cnd t21_19 (fun Q50 => Q50 .normal (upd e 21 t21_19) H) (fun Q51 => Q51
  (.exit 0) (upd e 21 t21_19) H) Q20
theorem h14_0 (S : Sys) (e : Fe) (H : Heap) (Q : Kx) : wpC S b14_0 e H Q = s14_0 S e H Q := by kernel_rfl
theorem l14_0 (S : Sys) {Q : Kx} (I : Nat → Fe → Heap → Prop) (d : Nat) {e0 : Fe} {H : Heap} (h0 : I d e0 H) (hr : ∀ (d : Nat) (e : Fe) (H : Heap), I d e H → s14_0 S e H
  (sq (fun e' H' => ∃ d', d' < d ∧ I d' e' H') Q)) : WL S b14_0 e0 H Q := WL_inv I d h0 fun d e H hi => (h14_0 S e H _).mpr (hr d e H hi)
theorem u14_0 (S : Sys) {Q : Kx} {e : Fe} {H : Heap} (h : s14_0 S e H (sq (fun e' H' => WL S b14_0 e' H' Q) Q)) : WL S b14_0 e H Q := WL_once ((h14_0 S e H _).mpr h)
def s14 (S : Sys) (a0 : Value) (H : Heap) (R : Kv) : Prop := run S (.call 66 []) [] H fun t9_1 H => run S (.un .not (.c t9_1)) [] H fun t10_2 H => jn (sq (fun e4 H =>
  run S (.call 67 [(.c (e4 0))]) [] H fun t13_5 H => run S (.xt (.c t13_5) 0) [] H fun t14_6 H => run S (.xt (.c t13_5) 1) [] H fun t15_7 H => run S (.un .not (.c
  t15_7)) [] H fun t17_8 H => jn (sq (fun e10 H => run S (.lenL (.c (e10 0))) [] H fun t19_11 H => jn (sq (fun e13 H => R (.bool true) H) (fn [(.t 2)] R)) fun Q12 => jn
  (blk 0 Q12) fun Q14 => WL S b14_0 (upd (upd (upd e10 18 (e10 0)) 19 t19_11) 20 (.int .i64 0)) H Q14) (fn [(.t 2)] R)) fun Q9 => cnd t17_8 (fun Q15 => Q15 .ret (upd
  (upd (upd (upd (upd (upd (upd (upd (upd (upd e4 12 (e4 0)) 13 t13_5) 11 t13_5) 14 t14_6) 15 t15_7) 3 t14_6) 4 t15_7) 16 t15_7) 17 t17_8) 2 (.bool true)) H) (fun Q16 =>
  Q16 .normal (upd (upd (upd (upd (upd (upd (upd (upd (upd e4 12 (e4 0)) 13 t13_5) 11 t13_5) 14 t14_6) 15 t15_7) 3 t14_6) 4 t15_7) 16 t15_7) 17 t17_8) H) Q9) (fn [(.t
  2)] R)) fun Q3 => cnd t10_2 (fun Q17 => Q17 .ret (upd (upd (upd (upd (Env.get [a0]) 2 (.bool false)) 9 t9_1) 10 t10_2) 2 (.bool false)) H) (fun Q18 => Q18 .normal (upd
  (upd (upd (Env.get [a0]) 2 (.bool false)) 9 t9_1) 10 t10_2) H) Q3
theorem h14 (S : Sys) (a0 : Value) (H : Heap) (R : Kv) : wpC S k14.body (Env.get [a0]) H (fn [(.t 2)] R) = s14 S a0 H R := by kernel_rfl
theorem w14 {S : Sys} (hR : S.R 14 = none) (hF : S.F 14 = some k14) (a0 : Value) {H : Heap} {R : Kv} (h : s14 S a0 H R) : Wf S 14 [a0] H R := Wf_sh hR hF ((h14 S a0 H
  R).mpr h)
def s15 (S : Sys) (a0 a1 : Value) (H : Heap) (R : Kv) : Prop := run S (.call 66 []) [] H fun t9_1 H => run S (.un .not (.c t9_1)) [] H fun t10_2 H => jn (sq (fun e4 H =>
  run S (.lenL (.c (e4 0))) [] H fun t12_5 H => run S (.bin .gtr (.c t12_5) (.c (.int .i64 260))) [] H fun t13_6 H => gd t13_6 false (run S (.mv (.c (e4 1))) [] H) H fun
  t15_7 H => gd t13_6 false (run S (.lenL (.c t15_7)) [] H) H fun t16_8 H => gd t13_6 false (run S (.bin .gtr (.c t16_8) (.c (.int .i64 260))) [] H) H fun t17_9 H => run
  S (.pick (.c t13_6) (.c (.bool true)) (.c t17_9)) [] H fun t18_10 H => jn (sq (fun e12 H => run S (.call 71 [(.c (e12 0)), (.c (e12 1))]) [] H fun t22_13 H => run S
  (.xt (.c t22_13) 0) [] H fun t23_14 H => run S (.xt (.c t22_13) 1) [] H fun t24_15 H => run S (.call 72 [(.c (e12 0))]) [] H fun t26_16 H => run S (.un .not (.c
  t26_16)) [] H fun t27_17 H => gd t27_17 false (run S (.mv (.c (e12 1))) [] H) H fun t29_18 H => gd t27_17 false (run S (.lenL (.c t29_18)) [] H) H fun t30_19 H => gd
  t27_17 false (run S (.mv (.c (e12 0))) [] H) H fun t31_20 H => gd t27_17 false (run S (.lenL (.c t31_20)) [] H) H fun t32_21 H => gd t27_17 false (run S (.bin .lss (.c
  t30_19) (.c t32_21)) [] H) H fun t33_22 H => run S (.pick (.c t27_17) (.c (.bool true)) (.c t33_22)) [] H fun t34_23 H => gd t34_23 false (run S (.mv (.c (e12 1))) []
  H) H fun t36_24 H => gd t34_23 false (run S (.call 73 [(.c t36_24)]) [] H) H fun t37_25 H => gd t34_23 false (run S (.un .not (.c t37_25)) [] H) H fun t38_26 H => run
  S (.pick (.c t34_23) (.c (.bool true)) (.c t38_26)) [] H fun t39_27 H => jn (sq (fun e29 H => run S (.call 74 [(.c (e29 0)), (.c (e29 1))]) [] H fun t49_30 H => run S
  (.xt (.c t49_30) 0) [] H fun t50_31 H => run S (.xt (.c t49_30) 1) [] H fun t51_32 H => run S (.eqv (.s .bool) false (.c (e29 6)) (.c t51_32)) [] H fun t54_33 H => gd
  t54_33 true (run S (.mv (.c (e29 5))) [] H) H fun t56_34 H => gd t54_33 true (run S (.mv (.c t50_31)) [] H) H fun t57_35 H => gd t54_33 true (run S (.bin .eql (.c
  t56_34) (.c t57_35)) [] H) H fun t58_36 H => run S (.pick (.c t54_33) (.c t58_36) (.c (.bool false))) [] H fun t59_37 H => R t59_37 H) (fn [(.t 4)] R)) fun Q28 => cnd
  t39_27 (fun Q38 => run S (.un .not (.c t24_15)) [] H fun t41_40 H => gd t41_40 true (run S (.mv (.c t23_14)) [] H) H fun t43_41 H => gd t41_40 true (run S (.bin .eql
  (.c t43_41) (.c (.int .i64 0))) [] H) H fun t44_42 H => run S (.pick (.c t41_40) (.c t44_42) (.c (.bool false))) [] H fun t45_43 H => Q38 .ret (upd (upd (upd (upd (upd
  (upd (upd (upd (upd (upd (upd (upd (upd (upd (upd (upd (upd (upd (upd (upd (upd (upd (upd (upd (upd (upd (upd (upd (upd (upd e12 20 (e12 0)) 21 (e12 1)) 22 t22_13) 19
  t22_13) 23 t23_14) 24 t24_15) 5 t23_14) 6 t24_15) 25 (e12 0)) 26 t26_16) 27 t27_17) 28 t27_17) 29 t29_18) 30 t30_19) 31 t31_20) 32 t32_21) 33 t33_22) 34 t34_23) 35
  t34_23) 36 t36_24) 37 t37_25) 38 t38_26) 39 t39_27) 40 t24_15) 41 t41_40) 42 t41_40) 43 t43_41) 44 t44_42) 45 t45_43) 4 t45_43) H) (fun Q39 => Q39 .normal (upd (upd
  (upd (upd (upd (upd (upd (upd (upd (upd (upd (upd (upd (upd (upd (upd (upd (upd (upd (upd (upd (upd (upd e12 20 (e12 0)) 21 (e12 1)) 22 t22_13) 19 t22_13) 23 t23_14)
  24 t24_15) 5 t23_14) 6 t24_15) 25 (e12 0)) 26 t26_16) 27 t27_17) 28 t27_17) 29 t29_18) 30 t30_19) 31 t31_20) 32 t32_21) 33 t33_22) 34 t34_23) 35 t34_23) 36 t36_24) 37
  t37_25) 38 t38_26) 39 t39_27) H) Q28) (fn [(.t 4)] R)) fun Q11 => cnd t18_10 (fun Q44 => Q44 .ret (upd (upd (upd (upd (upd (upd (upd (upd (upd e4 11 (e4 0)) 12 t12_5)
  13 t13_6) 14 t13_6) 15 t15_7) 16 t16_8) 17 t17_9) 18 t18_10) 4 (.bool true)) H) (fun Q45 => Q45 .normal (upd (upd (upd (upd (upd (upd (upd (upd e4 11 (e4 0)) 12 t12_5)
  13 t13_6) 14 t13_6) 15 t15_7) 16 t16_8) 17 t17_9) 18 t18_10) H) Q11) (fn [(.t 4)] R)) fun Q3 => cnd t10_2 (fun Q46 => Q46 .ret (upd (upd (upd (upd (Env.get [a0, a1]) 4
  (.bool false)) 9 t9_1) 10 t10_2) 4 (.bool false)) H) (fun Q47 => Q47 .normal (upd (upd (upd (Env.get [a0, a1]) 4 (.bool false)) 9 t9_1) 10 t10_2) H) Q3
theorem h15 (S : Sys) (a0 a1 : Value) (H : Heap) (R : Kv) : wpC S k15.body (Env.get [a0, a1]) H (fn [(.t 4)] R) = s15 S a0 a1 H R := by kernel_rfl
theorem w15 {S : Sys} (hR : S.R 15 = none) (hF : S.F 15 = some k15) (a0 a1 : Value) {H : Heap} {R : Kv} (h : s15 S a0 a1 H R) : Wf S 15 [a0, a1] H R := Wf_sh hR hF ((h15
  S a0 a1 H R).mpr h)
def s18 (S : Sys) (a0 a1 : Value) (H : Heap) (R : Kv) : Prop := run S (.call 80 []) [] H fun t10_1 H => run S (.un .not (.c t10_1)) [] H fun t11_2 H => jn (sq (fun e4 H
  => run S (.lenS (.c (e4 0))) [] H fun t13_5 H => run S (.bin .gtr (.c t13_5) (.c (.int .i64 200))) [] H fun t14_6 H => gd t14_6 false (run S (.mv (.c (e4 0))) [] H) H
  fun t16_7 H => gd t14_6 false (run S (.lenS (.c t16_7)) [] H) H fun t17_8 H => gd t14_6 false (run S (.bin .eql (.c t17_8) (.c (.int .i64 0))) [] H) H fun t18_9 H =>
  run S (.pick (.c t14_6) (.c (.bool true)) (.c t18_9)) [] H fun t19_10 H => jn (sq (fun e12 H => run S (.call 81 [(.c (e12 0))]) [] H fun t21_13 H => run S (.call 38
  [(.c t21_13)]) [] H fun t24_14 H => run S (.lenS (.c (e12 0))) [] H fun t26_15 H => run S (.bin .sub (.c t26_15) (.c (.int .i64 1))) [] H fun t27_16 H => run S (.call
  82 [(.c t24_14), (.c t27_16)]) [] H fun t28_17 H => run S (.xt (.c t28_17) 0) [] H fun t29_18 H => run S (.xt (.c t28_17) 1) [] H fun t30_19 H => run S (.cvt .i64 (.c
  (e12 1))) [] H fun t34_20 H => run S (.lenS (.c t21_13)) [] H fun t36_21 H => run S (.bin .rem (.c t34_20) (.c t36_21)) [] H fun t37_22 H => run S (.slS (.c t21_13)
  none (some (.c t37_22))) [] H fun t38_23 H => run S (.call 38 [(.c t38_23)]) [] H fun t39_24 H => run S (.lenS (.c (e12 0))) [] H fun t41_25 H => run S (.call 82 [(.c
  t39_24), (.c t41_25)]) [] H fun t42_26 H => run S (.xt (.c t42_26) 0) [] H fun t43_27 H => run S (.xt (.c t42_26) 1) [] H fun t44_28 H => run S (.un .not (.c t30_19))
  [] H fun t46_29 H => gd t46_29 true (run S (.mv (.c t44_28)) [] H) H fun t48_30 H => gd t46_29 true (run S (.un .not (.c t48_30)) [] H) H fun t49_31 H => run S (.pick
  (.c t46_29) (.c t49_31) (.c (.bool false))) [] H fun t50_32 H => R t50_32 H) (fn [(.t 4)] R)) fun Q11 => cnd t19_10 (fun Q33 => Q33 .ret (upd (upd (upd (upd (upd (upd
  (upd (upd (upd e4 12 (e4 0)) 13 t13_5) 14 t14_6) 15 t14_6) 16 t16_7) 17 t17_8) 18 t18_9) 19 t19_10) 4 (.bool true)) H) (fun Q34 => Q34 .normal (upd (upd (upd (upd (upd
  (upd (upd (upd e4 12 (e4 0)) 13 t13_5) 14 t14_6) 15 t14_6) 16 t16_7) 17 t17_8) 18 t18_9) 19 t19_10) H) Q11) (fn [(.t 4)] R)) fun Q3 => cnd t11_2 (fun Q35 => Q35 .ret
  (upd (upd (upd (upd (Env.get [a0, a1]) 4 (.bool false)) 10 t10_1) 11 t11_2) 4 (.bool false)) H) (fun Q36 => Q36 .normal (upd (upd (upd (Env.get [a0, a1]) 4 (.bool
  false)) 10 t10_1) 11 t11_2) H) Q3
theorem h18 (S : Sys) (a0 a1 : Value) (H : Heap) (R : Kv) : wpC S k18.body (Env.get [a0, a1]) H (fn [(.t 4)] R) = s18 S a0 a1 H R := by kernel_rfl
theorem w18 {S : Sys} (hR : S.R 18 = none) (hF : S.F 18 = some k18) (a0 a1 : Value) {H : Heap} {R : Kv} (h : s18 S a0 a1 H R) : Wf S 18 [a0, a1] H R := Wf_sh hR hF ((h18
  S a0 a1 H R).mpr h)
def s23 (S : Sys) (H : Heap) (R : Kv) : Prop := run S (.build [(.int .i64 0), (.int .i64 0), (.int .i64 0), (.bool false), (.string (bs []))] [(0, (1, (.c (.int .i64
  3)))), (1, (1, (.c (.int .i64 2))))]) [] H fun t7_1 H => run S (.bsl 34 1 [(.int .i64 0), (.int .i64 0), (.int .i64 0), (.bool false), (.string (bs []))] [(0, (5, (.c
  t7_1)))]) [] H fun t8_2 H => run S (.call 27 [(.c t8_2)]) [] H fun t9_3 H => run S (.xt (.c t9_3) 0) [] H fun t10_4 H => run S (.xt (.c t9_3) 1) [] H fun t11_5 H =>
  run S (.call 28 [(.c t10_4)]) [] H fun t14_6 H => run S (.xt (.c t14_6) 0) [] H fun t15_7 H => run S (.xt (.c t14_6) 1) [] H fun t16_8 H => run S (.xt (.c t14_6) 2) []
  H fun t17_9 H => run S (.bin .eql (.c t11_5) (.c (.int .i64 0))) [] H fun t19_10 H => gd t19_10 true (run S (.mv (.c t10_4)) [] H) H fun t21_11 H => gd t19_10 true
  (run S (.bin .eql (.c t21_11) (.c (.string (bs [3, 2, 0, 0])))) [] H) H fun t22_12 H => run S (.pick (.c t19_10) (.c t22_12) (.c (.bool false))) [] H fun t23_13 H =>
  gd t23_13 true (run S (.mv (.c t16_8)) [] H) H fun t25_14 H => gd t23_13 true (run S (.bin .eql (.c t25_14) (.c (.int .i64 0))) [] H) H fun t26_15 H => run S (.pick
  (.c t23_13) (.c t26_15) (.c (.bool false))) [] H fun t27_16 H => gd t27_16 true (run S (.mv (.c t15_7)) [] H) H fun t29_17 H => gd t27_16 true (run S (.lenL (.c
  t29_17)) [] H) H fun t30_18 H => gd t27_16 true (run S (.bin .eql (.c t30_18) (.c (.int .i64 1))) [] H) H fun t31_19 H => run S (.pick (.c t27_16) (.c t31_19) (.c
  (.bool false))) [] H fun t32_20 H => gd t32_20 true (run S (.mv (.c t15_7)) [] H) H fun t34_21 H => gd t32_20 true (run S (.iad 5 (.c t34_21) (.c (.int .i64 0))) [] H)
  H fun t35_22 H => gd t32_20 true (run S (.ldn 5 (.c t35_22)) [] H) H fun t36_23 H => gd t32_20 true (run S (.build [(.int .i64 0), (.int .i64 0), (.int .i64 0), (.bool
  false), (.string (bs []))] [(0, (1, (.c (.int .i64 3)))), (1, (1, (.c (.int .i64 2))))]) [] H) H fun t37_24 H => gd t32_20 true (run S (.eqv (.agg [.int, .int, .int,
  .bool, .str]) false (.c t36_23) (.c t37_24)) [] H) H fun t38_25 H => run S (.pick (.c t32_20) (.c t38_25) (.c (.bool false))) [] H fun t39_26 H => R t39_26 H
theorem h23 (S : Sys) (H : Heap) (R : Kv) : wpC S k23.body (Env.get []) H (fn [(.t 0)] R) = s23 S  H R := by kernel_rfl
theorem w23 {S : Sys} (hR : S.R 23 = none) (hF : S.F 23 = some k23) {H : Heap} {R : Kv} (h : s23 S  H R) : Wf S 23 [] H R := Wf_sh hR hF ((h23 S  H R).mpr h)
def s24 (S : Sys) (a0 : Value) (H : Heap) (R : Kv) : Prop := run S (.box 34 (.c a0)) [] H fun t1_1 H => run S (.fad 0 (.c t1_1)) [] H fun t3_2 H => run S (.ld (.c t3_2))
  [] H fun t4_3 H => run S (.bin .geq (.c t4_3) (.c (.int .i64 0))) [] H fun t5_4 H => gd t5_4 true (run S (.fad 0 (.c t1_1)) [] H) H fun t7_5 H => gd t5_4 true (run S
  (.ld (.c t7_5)) [] H) H fun t8_6 H => gd t5_4 true (run S (.bin .leq (.c t8_6) (.c (.int .i64 9))) [] H) H fun t9_7 H => run S (.pick (.c t5_4) (.c t9_7) (.c (.bool
  false))) [] H fun t10_8 H => gd t10_8 true (run S (.fad 1 (.c t1_1)) [] H) H fun t12_9 H => gd t10_8 true (run S (.ld (.c t12_9)) [] H) H fun t13_10 H => gd t10_8 true
  (run S (.bin .geq (.c t13_10) (.c (.int .i64 0))) [] H) H fun t14_11 H => run S (.pick (.c t10_8) (.c t14_11) (.c (.bool false))) [] H fun t15_12 H => gd t15_12 true
  (run S (.fad 1 (.c t1_1)) [] H) H fun t17_13 H => gd t15_12 true (run S (.ld (.c t17_13)) [] H) H fun t18_14 H => gd t15_12 true (run S (.bin .leq (.c t18_14) (.c
  (.int .i64 255))) [] H) H fun t19_15 H => run S (.pick (.c t15_12) (.c t19_15) (.c (.bool false))) [] H fun t20_16 H => gd t20_16 true (run S (.fad 2 (.c t1_1)) [] H)
  H fun t22_17 H => gd t20_16 true (run S (.ld (.c t22_17)) [] H) H fun t23_18 H => gd t20_16 true (run S (.bin .geq (.c t23_18) (.c (.int .i64 0))) [] H) H fun t24_19 H
  => run S (.pick (.c t20_16) (.c t24_19) (.c (.bool false))) [] H fun t25_20 H => gd t25_20 true (run S (.fad 2 (.c t1_1)) [] H) H fun t27_21 H => gd t25_20 true (run S
  (.ld (.c t27_21)) [] H) H fun t28_22 H => gd t25_20 true (run S (.bin .leq (.c t28_22) (.c (.int .i64 1073741824))) [] H) H fun t29_23 H => run S (.pick (.c t25_20)
  (.c t29_23) (.c (.bool false))) [] H fun t30_24 H => gd t30_24 true (run S (.fad 4 (.c t1_1)) [] H) H fun t32_25 H => gd t30_24 true (run S (.ld (.c t32_25)) [] H) H
  fun t33_26 H => gd t30_24 true (run S (.lenS (.c t33_26)) [] H) H fun t34_27 H => gd t30_24 true (run S (.bin .leq (.c t34_27) (.c (.int .i64 600))) [] H) H fun t35_28
  H => run S (.pick (.c t30_24) (.c t35_28) (.c (.bool false))) [] H fun t36_29 H => R t36_29 H
theorem h24 (S : Sys) (a0 : Value) (H : Heap) (R : Kv) : wpC S k24.body (Env.get [a0]) H (fn [(.t 2)] R) = s24 S a0 H R := by kernel_rfl
theorem w24 {S : Sys} (hR : S.R 24 = none) (hF : S.F 24 = some k24) (a0 : Value) {H : Heap} {R : Kv} (h : s24 S a0 H R) : Wf S 24 [a0] H R := Wf_sh hR hF ((h24 S a0 H
  R).mpr h)
def s25 (S : Sys) (a0 : Value) (H : Heap) (R : Kv) : Prop := run S (.box 34 (.c a0)) [] H fun t1_1 H => run S (.fad 0 (.c t1_1)) [] H fun t3_2 H => run S (.ld (.c t3_2))
  [] H fun t4_3 H => run S (.bin .geq (.c t4_3) (.c (.int .i64 0))) [] H fun t5_4 H => gd t5_4 true (run S (.fad 0 (.c t1_1)) [] H) H fun t7_5 H => gd t5_4 true (run S
  (.ld (.c t7_5)) [] H) H fun t8_6 H => gd t5_4 true (run S (.bin .leq (.c t8_6) (.c (.int .i64 9))) [] H) H fun t9_7 H => run S (.pick (.c t5_4) (.c t9_7) (.c (.bool
  false))) [] H fun t10_8 H => gd t10_8 true (run S (.fad 1 (.c t1_1)) [] H) H fun t12_9 H => gd t10_8 true (run S (.ld (.c t12_9)) [] H) H fun t13_10 H => gd t10_8 true
  (run S (.bin .geq (.c t13_10) (.c (.int .i64 0))) [] H) H fun t14_11 H => run S (.pick (.c t10_8) (.c t14_11) (.c (.bool false))) [] H fun t15_12 H => gd t15_12 true
  (run S (.fad 1 (.c t1_1)) [] H) H fun t17_13 H => gd t15_12 true (run S (.ld (.c t17_13)) [] H) H fun t18_14 H => gd t15_12 true (run S (.bin .leq (.c t18_14) (.c
  (.int .i64 255))) [] H) H fun t19_15 H => run S (.pick (.c t15_12) (.c t19_15) (.c (.bool false))) [] H fun t20_16 H => gd t20_16 true (run S (.fad 2 (.c t1_1)) [] H)
  H fun t22_17 H => gd t20_16 true (run S (.ld (.c t22_17)) [] H) H fun t23_18 H => gd t20_16 true (run S (.bin .geq (.c t23_18) (.c (.int .i64 0))) [] H) H fun t24_19 H
  => run S (.pick (.c t20_16) (.c t24_19) (.c (.bool false))) [] H fun t25_20 H => gd t25_20 true (run S (.fad 2 (.c t1_1)) [] H) H fun t27_21 H => gd t25_20 true (run S
  (.ld (.c t27_21)) [] H) H fun t28_22 H => gd t25_20 true (run S (.bin .leq (.c t28_22) (.c (.int .i64 1073741824))) [] H) H fun t29_23 H => run S (.pick (.c t25_20)
  (.c t29_23) (.c (.bool false))) [] H fun t30_24 H => gd t30_24 true (run S (.fad 4 (.c t1_1)) [] H) H fun t32_25 H => gd t30_24 true (run S (.ld (.c t32_25)) [] H) H
  fun t33_26 H => gd t30_24 true (run S (.lenS (.c t33_26)) [] H) H fun t34_27 H => gd t30_24 true (run S (.bin .leq (.c t34_27) (.c (.int .i64 600))) [] H) H fun t35_28
  H => run S (.pick (.c t30_24) (.c t35_28) (.c (.bool false))) [] H fun t36_29 H => R t36_29 H
theorem h25 (S : Sys) (a0 : Value) (H : Heap) (R : Kv) : wpC S k25.body (Env.get [a0]) H (fn [(.t 2)] R) = s25 S a0 H R := by kernel_rfl
theorem w25 {S : Sys} (hR : S.R 25 = none) (hF : S.F 25 = some k25) (a0 : Value) {H : Heap} {R : Kv} (h : s25 S a0 H R) : Wf S 25 [a0] H R := Wf_sh hR hF ((h25 S a0 H
  R).mpr h)
def s26 (S : Sys) (a0 : Value) (H : Heap) (R : Kv) : Prop := run S (.box 34 (.c a0)) [] H fun t1_1 H => run S (.fad 0 (.c t1_1)) [] H fun t4_2 H => run S (.ld (.c t4_2))
  [] H fun t5_3 H => run S (.fad 3 (.c t1_1)) [] H fun t6_4 H => run S (.ld (.c t6_4)) [] H fun t7_5 H => jn (sq (fun e7 H => False) (fn [(.t 2)] R)) fun Q6 => cnd t7_5
  (fun Q8 => run S (.bin .add (.c t5_3) (.c (.int .i64 16))) [] H fun t9_10 H => Q8 .normal (upd (upd (upd (upd (upd (upd (upd (upd (upd (upd (Env.get [a0]) 1 t1_1) 2
  (.string (bs []))) 4 t4_2) 5 t5_3) 3 t5_3) 6 t6_4) 7 t7_5) 8 t5_3) 9 t9_10) 3 t9_10) H) (fun Q9 => Q9 .normal (upd (upd (upd (upd (upd (upd (upd (Env.get [a0]) 1 t1_1)
  2 (.string (bs []))) 4 t4_2) 5 t5_3) 3 t5_3) 6 t6_4) 7 t7_5) H) Q6
theorem h26 (S : Sys) (a0 : Value) (H : Heap) (R : Kv) : wpC S k26.body (Env.get [a0]) H (fn [(.t 2)] R) = s26 S a0 H R := by kernel_rfl
theorem w26 {S : Sys} (hR : S.R 26 = none) (hF : S.F 26 = some k26) (a0 : Value) {H : Heap} {R : Kv} (h : s26 S a0 H R) : Wf S 26 [a0] H R := Wf_sh hR hF ((h26 S a0 H
  R).mpr h)
def b27_0 : KCode := (.seq (.reg [(.op (some 11) none (.bin .lss (.t 10) (.t 9)))]) (.seq (.cond (.t 11) .skip (.exit 0)) (.seq (.block 1 (.seq (.reg [(.op (some 12)
  none (.iad 5 (.t 8) (.t 10))), (.op (some 13) none (.ldn 5 (.t 12))), (.op (some 6) none (.alloc 34 [(.int .i64 0), (.int .i64 0), (.int .i64 0), (.bool false),
  (.string (bs []))])), (.op none none (.stn 5 (.t 6) (.t 13)))]) (.seq (.seq (.reg [(.op (some 14) none (.ldn 5 (.t 6))), (.op (some 15) none (.call 24 [(.t 14)])),
  (.op (some 16) none (.un .not (.t 15)))]) (.cond (.t 16) (.seq (.reg [(.op (some 2) none (.mv (.c (.string (bs []))))), (.op (some 3) none (.mv (.c (.int .i64 3))))])
  .ret) .skip)) (.seq (.reg [(.op (some 17) none (.fad 0 (.t 6))), (.op (some 18) none (.ld (.t 17))), (.op (some 7) none (.mv (.t 18)))]) (.seq (.seq (.reg [(.op (some
  19) none (.fad 3 (.t 6))), (.op (some 20) none (.ld (.t 19)))]) (.cond (.t 20) (.reg [(.op (some 21) none (.mv (.t 7))), (.op (some 22) none (.bin .or (.t 21) (.c
  (.int .i64 16)))), (.op (some 7) none (.mv (.t 22)))]) .skip)) (.reg [(.op (some 23) none (.mv (.t 7))), (.op (some 24) none (.cvt .u64 (.t 23))), (.op (some 26) none
  (.fad 1 (.t 6))), (.op (some 27) none (.ld (.t 26))), (.op (some 28) none (.cvt .u64 (.t 27))), (.op (some 30) none (.fad 2 (.t 6))), (.op (some 31) none (.ld (.t
  30))), (.op (some 32) none (.cvt .u64 (.t 31))), (.op (some 34) none (.fad 4 (.t 6))), (.op (some 35) none (.ld (.t 34))), (.op (some 25) none (.call 89 [(.t 4), (.t
  24), (.c (.int .i64 1))])), (.chk 27 none (.ld (.t 26))), (.chk 31 none (.ld (.t 30))), (.chk 35 none (.ld (.t 34))), (.op (some 29) none (.call 89 [(.t 25), (.t 28),
  (.c (.int .i64 1))])), (.chk 31 none (.ld (.t 30))), (.chk 35 none (.ld (.t 34))), (.op (some 33) none (.call 90 [(.t 29), (.t 32)])), (.chk 35 none (.ld (.t 34))),
  (.op (some 36) none (.call 91 [(.t 33), (.t 35)]))])))))) (.reg [(.op (some 37) none (.bin .add (.t 10) (.c (.int .i64 1)))), (.op (some 10) none (.mv (.t 37)))]))))
def s27_0 (S : Sys) (e : Fe) (H : Heap) (Q : Kx) : Prop := run S (.bin .lss (.c (e 10)) (.c (e 9))) [] H fun t11_7 H => jn (sq (fun e9 H => jn (sq (fun e11 H => run S
  (.bin .add (.c (e11 10)) (.c (.int .i64 1))) [] H fun t37_12 H => Q .normal (upd (upd e11 37 t37_12) 10 t37_12) H) Q) fun Q10 => run S (.iad 5 (.c (e9 8)) (.c (e9
  10))) [] H fun t12_13 H => run S (.ldn 5 (.c t12_13)) [] H fun t13_14 H => run S (.alloc 34 [(.int .i64 0), (.int .i64 0), (.int .i64 0), (.bool false), (.string (bs
  []))]) [] H fun t6_15 H => run S (.stn 5 (.c t6_15) (.c t13_14)) [] H fun _ H => run S (.ldn 5 (.c t6_15)) [] H fun t14_16 H => run S (.call 24 [(.c t14_16)]) [] H fun
  t15_17 H => run S (.un .not (.c t15_17)) [] H fun t16_18 H => jn (blk 1 Q10) fun Q19 => jn (sq (fun e21 H => run S (.fad 0 (.c (e21 6))) [] H fun t17_22 H => run S
  (.ld (.c t17_22)) [] H fun t18_23 H => run S (.fad 3 (.c (e21 6))) [] H fun t19_24 H => run S (.ld (.c t19_24)) [] H fun t20_25 H => jn (sq (fun e27 H => run S (.cvt
  .u64 (.c (e27 7))) [] H fun t24_28 H => run S (.fad 1 (.c (e27 6))) [] H fun t26_29 H => run S (.ld (.c t26_29)) [] H fun t27_30 H => run S (.cvt .u64 (.c t27_30)) []
  H fun t28_31 H => run S (.fad 2 (.c (e27 6))) [] H fun t30_32 H => run S (.ld (.c t30_32)) [] H fun t31_33 H => run S (.cvt .u64 (.c t31_33)) [] H fun t32_34 H => run
  S (.fad 4 (.c (e27 6))) [] H fun t34_35 H => run S (.ld (.c t34_35)) [] H fun t35_36 H => run S (.call 89 [(.c (e27 4)), (.c t24_28), (.c (.int .i64 1))]) [] H fun
  t25_37 H => ck (kop (.ld (.c t26_29)) [] H) t27_30 (ck (kop (.ld (.c t30_32)) [] H) t31_33 (ck (kop (.ld (.c t34_35)) [] H) t35_36 (run S (.call 89 [(.c t25_37), (.c
  t28_31), (.c (.int .i64 1))]) [] H fun t29_38 H => ck (kop (.ld (.c t30_32)) [] H) t31_33 (ck (kop (.ld (.c t34_35)) [] H) t35_36 (run S (.call 90 [(.c t29_38), (.c
  t32_34)]) [] H fun t33_39 H => ck (kop (.ld (.c t34_35)) [] H) t35_36 (run S (.call 91 [(.c t33_39), (.c t35_36)]) [] H fun t36_40 H => Q19 .normal (upd (upd (upd (upd
  (upd (upd (upd (upd (upd (upd (upd (upd (upd (upd e27 23 (e27 7)) 24 t24_28) 26 t26_29) 27 t27_30) 28 t28_31) 30 t30_32) 31 t31_33) 32 t32_34) 34 t34_35) 35 t35_36) 25
  t25_37) 29 t29_38) 33 t33_39) 36 t36_40) H))))))) Q19) fun Q26 => cnd t20_25 (fun Q41 => run S (.bin .or (.c t18_23) (.c (.int .i64 16))) [] H fun t22_43 H => Q41
  .normal (upd (upd (upd (upd (upd (upd (upd (upd e21 17 t17_22) 18 t18_23) 7 t18_23) 19 t19_24) 20 t20_25) 21 t18_23) 22 t22_43) 7 t22_43) H) (fun Q42 => Q42 .normal
  (upd (upd (upd (upd (upd e21 17 t17_22) 18 t18_23) 7 t18_23) 19 t19_24) 20 t20_25) H) Q26) Q19) fun Q20 => cnd t16_18 (fun Q44 => Q44 .ret (upd (upd (upd (upd (upd
  (upd (upd (upd e9 12 t12_13) 13 t13_14) 6 t6_15) 14 t14_16) 15 t15_17) 16 t16_18) 2 (.string (bs []))) 3 (.int .i64 3)) H) (fun Q45 => Q45 .normal (upd (upd (upd (upd
  (upd (upd e9 12 t12_13) 13 t13_14) 6 t6_15) 14 t14_16) 15 t15_17) 16 t16_18) H) Q20) Q) fun Q8 => cnd t11_7 (fun Q46 => Q46 .normal (upd e 11 t11_7) H) (fun Q47 => Q47
  (.exit 0) (upd e 11 t11_7) H) Q8
theorem h27_0 (S : Sys) (e : Fe) (H : Heap) (Q : Kx) : wpC S b27_0 e H Q = s27_0 S e H Q := by kernel_rfl
theorem l27_0 (S : Sys) {Q : Kx} (I : Nat → Fe → Heap → Prop) (d : Nat) {e0 : Fe} {H : Heap} (h0 : I d e0 H) (hr : ∀ (d : Nat) (e : Fe) (H : Heap), I d e H → s27_0 S e H
  (sq (fun e' H' => ∃ d', d' < d ∧ I d' e' H') Q)) : WL S b27_0 e0 H Q := WL_inv I d h0 fun d e H hi => (h27_0 S e H _).mpr (hr d e H hi)
theorem u27_0 (S : Sys) {Q : Kx} {e : Fe} {H : Heap} (h : s27_0 S e H (sq (fun e' H' => WL S b27_0 e' H' Q) Q)) : WL S b27_0 e H Q := WL_once ((h27_0 S e H _).mpr h)
def s27 (S : Sys) (a0 : Value) (H : Heap) (R : Kv) : Prop := run S (.alloc 110 [(.slice none 0 0)]) [] H fun t4_1 H => run S (.lenL (.c a0)) [] H fun t9_2 H => jn (sq
  (fun e4 H => run S (.call 92 [(.c (e4 4))]) [] H fun t38_5 H => R (tup [t38_5, (.int .i64 0)]) H) (fn [(.t 2), (.t 3)] R)) fun Q3 => jn (blk 0 Q3) fun Q6 => WL S b27_0
  (upd (upd (upd (upd (upd (upd (Env.get [a0]) 2 (.string (bs []))) 3 (.int .i64 0)) 4 t4_1) 8 a0) 9 t9_2) 10 (.int .i64 0)) H Q6
theorem h27 (S : Sys) (a0 : Value) (H : Heap) (R : Kv) : wpC S k27.body (Env.get [a0]) H (fn [(.t 2), (.t 3)] R) = s27 S a0 H R := by kernel_rfl
theorem w27 {S : Sys} (hR : S.R 27 = none) (hF : S.F 27 = some k27) (a0 : Value) {H : Heap} {R : Kv} (h : s27 S a0 H R) : Wf S 27 [a0] H R := Wf_sh hR hF ((h27 S a0 H
  R).mpr h)
def b28_0 : KCode := (.seq (.seq (.reg [(.op (some 10) none (.mv (.t 6))), (.op (some 11) none (.mv (.t 0))), (.op (some 12) none (.lenS (.t 11))), (.op (some 13) none
  (.bin .lss (.t 10) (.t 12)))]) (.cond (.t 13) .skip (.exit 0))) (.block 1 (.seq (.reg [(.op (some 14) none (.mv (.t 0))), (.op (some 15) none (.mv (.t 6))), (.op (some
  16) none (.slS (.t 14) (some (.t 15)) none)), (.op (some 17) none (.call 38 [(.t 16)])), (.op (some 7) none (.mv (.t 17)))]) (.seq (.reg [(.op (some 19) none (.mv (.t
  7))), (.op (some 20) none (.call 93 [(.t 19)])), (.op (some 18) none (.mv (.t 20))), (.op (some 21) none (.xt (.t 18) 0)), (.op (some 22) none (.xt (.t 18) 1)), (.op
  (some 8) none (.alloc 34 [(.int .i64 0), (.int .i64 0), (.int .i64 0), (.bool false), (.string (bs []))])), (.op none none (.stn 5 (.t 8) (.t 21))), (.op (some 9) none
  (.mv (.t 22)))]) (.seq (.seq (.reg [(.op (some 23) none (.mv (.t 9))), (.op (some 24) none (.un .not (.t 23)))]) (.cond (.t 24) (.seq (.reg [(.op (some 25) none (.mv
  (.t 6))), (.op (some 2) none (.mv (.c (.slice none 0 0)))), (.op (some 3) none (.mv (.c (.int .i64 3)))), (.op (some 4) none (.mv (.t 25)))]) .ret) .skip)) (.seq (.reg
  [(.op (some 26) none (.mv (.t 5))), (.op (some 27) none (.ldn 5 (.t 8))), (.op (some 28) none (.bsl 34 1 [(.int .i64 0), (.int .i64 0), (.int .i64 0), (.bool false),
  (.string (bs []))] [(0, (5, (.t 27)))])), (.op (some 29) none (.app 34 5 48 (.t 26) (.t 28))), (.op (some 5) none (.mv (.t 29)))]) (.reg [(.op (some 30) none (.mv (.t
  0))), (.op (some 31) none (.lenS (.t 30))), (.op (some 32) none (.mv (.t 7))), (.op (some 33) none (.call 43 [(.t 32)])), (.op (some 34) none (.lenS (.t 33))), (.op
  (some 35) none (.bin .sub (.t 31) (.t 34))), (.op (some 6) none (.mv (.t 35)))])))))))
def s28_0 (S : Sys) (e : Fe) (H : Heap) (Q : Kx) : Prop := run S (.lenS (.c (e 0))) [] H fun t12_4 H => run S (.bin .lss (.c (e 6)) (.c t12_4)) [] H fun t13_5 H => jn
  (sq (fun e7 H => run S (.slS (.c (e7 0)) (some (.c (e7 6))) none) [] H fun t16_8 H => run S (.call 38 [(.c t16_8)]) [] H fun t17_9 H => run S (.call 93 [(.c t17_9)])
  [] H fun t20_10 H => run S (.xt (.c t20_10) 0) [] H fun t21_11 H => run S (.xt (.c t20_10) 1) [] H fun t22_12 H => run S (.alloc 34 [(.int .i64 0), (.int .i64 0),
  (.int .i64 0), (.bool false), (.string (bs []))]) [] H fun t8_13 H => run S (.stn 5 (.c t8_13) (.c t21_11)) [] H fun _ H => run S (.un .not (.c t22_12)) [] H fun
  t24_14 H => jn (blk 1 Q) fun Q15 => jn (sq (fun e17 H => run S (.ldn 5 (.c (e17 8))) [] H fun t27_18 H => run S (.bsl 34 1 [(.int .i64 0), (.int .i64 0), (.int .i64
  0), (.bool false), (.string (bs []))] [(0, (5, (.c t27_18)))]) [] H fun t28_19 H => run S (.app 34 5 48 (.c (e17 5)) (.c t28_19)) [] H fun t29_20 H => run S (.lenS (.c
  (e17 0))) [] H fun t31_21 H => run S (.call 43 [(.c (e17 7))]) [] H fun t33_22 H => run S (.lenS (.c t33_22)) [] H fun t34_23 H => run S (.bin .sub (.c t31_21) (.c
  t34_23)) [] H fun t35_24 H => Q15 .normal (upd (upd (upd (upd (upd (upd (upd (upd (upd (upd (upd (upd e17 26 (e17 5)) 27 t27_18) 28 t28_19) 29 t29_20) 5 t29_20) 30
  (e17 0)) 31 t31_21) 32 (e17 7)) 33 t33_22) 34 t34_23) 35 t35_24) 6 t35_24) H) Q15) fun Q16 => cnd t24_14 (fun Q25 => Q25 .ret (upd (upd (upd (upd (upd (upd (upd (upd
  (upd (upd (upd (upd (upd (upd (upd (upd (upd (upd e7 14 (e7 0)) 15 (e7 6)) 16 t16_8) 17 t17_9) 7 t17_9) 19 t17_9) 20 t20_10) 18 t20_10) 21 t21_11) 22 t22_12) 8 t8_13)
  9 t22_12) 23 t22_12) 24 t24_14) 25 (e7 6)) 2 (.slice none 0 0)) 3 (.int .i64 3)) 4 (e7 6)) H) (fun Q26 => Q26 .normal (upd (upd (upd (upd (upd (upd (upd (upd (upd (upd
  (upd (upd (upd (upd e7 14 (e7 0)) 15 (e7 6)) 16 t16_8) 17 t17_9) 7 t17_9) 19 t17_9) 20 t20_10) 18 t20_10) 21 t21_11) 22 t22_12) 8 t8_13) 9 t22_12) 23 t22_12) 24
  t24_14) H) Q16) Q) fun Q6 => cnd t13_5 (fun Q27 => Q27 .normal (upd (upd (upd (upd e 10 (e 6)) 11 (e 0)) 12 t12_4) 13 t13_5) H) (fun Q28 => Q28 (.exit 0) (upd (upd
  (upd (upd e 10 (e 6)) 11 (e 0)) 12 t12_4) 13 t13_5) H) Q6
theorem h28_0 (S : Sys) (e : Fe) (H : Heap) (Q : Kx) : wpC S b28_0 e H Q = s28_0 S e H Q := by kernel_rfl
theorem l28_0 (S : Sys) {Q : Kx} (I : Nat → Fe → Heap → Prop) (d : Nat) {e0 : Fe} {H : Heap} (h0 : I d e0 H) (hr : ∀ (d : Nat) (e : Fe) (H : Heap), I d e H → s28_0 S e H
  (sq (fun e' H' => ∃ d', d' < d ∧ I d' e' H') Q)) : WL S b28_0 e0 H Q := WL_inv I d h0 fun d e H hi => (h28_0 S e H _).mpr (hr d e H hi)
theorem u28_0 (S : Sys) {Q : Kx} {e : Fe} {H : Heap} (h : s28_0 S e H (sq (fun e' H' => WL S b28_0 e' H' Q) Q)) : WL S b28_0 e H Q := WL_once ((h28_0 S e H _).mpr h)
def s28 (S : Sys) (a0 : Value) (H : Heap) (R : Kv) : Prop := jn (sq (fun e2 H => R (tup [(e2 5), (.int .i64 0), (.int .i64 0)]) H) (fn [(.t 2), (.t 3), (.t 4)] R)) fun
  Q1 => jn (blk 0 Q1) fun Q3 => WL S b28_0 (upd (upd (upd (upd (upd (Env.get [a0]) 2 (.slice none 0 0)) 3 (.int .i64 0)) 4 (.int .i64 0)) 5 (.slice none 0 0)) 6 (.int
  .i64 0)) H Q3
theorem h28 (S : Sys) (a0 : Value) (H : Heap) (R : Kv) : wpC S k28.body (Env.get [a0]) H (fn [(.t 2), (.t 3), (.t 4)] R) = s28 S a0 H R := by kernel_rfl
theorem w28 {S : Sys} (hR : S.R 28 = none) (hF : S.F 28 = some k28) (a0 : Value) {H : Heap} {R : Kv} (h : s28 S a0 H R) : Wf S 28 [a0] H R := Wf_sh hR hF ((h28 S a0 H
  R).mpr h)
def b29_0 : KCode := (.seq (.reg [(.op (some 14) none (.bin .lss (.t 13) (.t 12)))]) (.seq (.cond (.t 14) .skip (.exit 0)) (.seq (.block 1 (.seq (.reg [(.op (some 15)
  none (.mv (.t 13))), (.op (some 5) none (.mv (.t 15)))]) (.seq (.reg [(.op (some 16) none (.mv (.t 0))), (.op (some 17) none (.mv (.t 5))), (.op (some 18) none (.iad 5
  (.t 16) (.t 17))), (.op (some 19) none (.ldn 5 (.t 18))), (.op (some 20) none (.mv (.t 1))), (.op (some 21) none (.mv (.t 5))), (.op (some 22) none (.iad 5 (.t 20) (.t
  21))), (.op (some 23) none (.ldn 5 (.t 22))), (.op (some 24) none (.eqv (.agg [.int, .int, .int, .bool, .str]) true (.t 19) (.t 23)))]) (.cond (.t 24) (.seq (.reg
  [(.op (some 4) none (.mv (.c (.bool false))))]) .ret) .skip)))) (.reg [(.op (some 25) none (.bin .add (.t 13) (.c (.int .i64 1)))), (.op (some 13) none (.mv (.t
  25)))]))))
def s29_0 (S : Sys) (e : Fe) (H : Heap) (Q : Kx) : Prop := run S (.bin .lss (.c (e 13)) (.c (e 12))) [] H fun t14_12 H => jn (sq (fun e14 H => jn (sq (fun e16 H => run S
  (.bin .add (.c (e16 13)) (.c (.int .i64 1))) [] H fun t25_17 H => Q .normal (upd (upd e16 25 t25_17) 13 t25_17) H) Q) fun Q15 => run S (.iad 5 (.c (e14 0)) (.c (e14
  13))) [] H fun t18_18 H => run S (.ldn 5 (.c t18_18)) [] H fun t19_19 H => run S (.iad 5 (.c (e14 1)) (.c (e14 13))) [] H fun t22_20 H => run S (.ldn 5 (.c t22_20)) []
  H fun t23_21 H => run S (.eqv (.agg [.int, .int, .int, .bool, .str]) true (.c t19_19) (.c t23_21)) [] H fun t24_22 H => jn (blk 1 Q15) fun Q23 => cnd t24_22 (fun Q24
  => Q24 .ret (upd (upd (upd (upd (upd (upd (upd (upd (upd (upd (upd (upd e14 15 (e14 13)) 5 (e14 13)) 16 (e14 0)) 17 (e14 13)) 18 t18_18) 19 t19_19) 20 (e14 1)) 21 (e14
  13)) 22 t22_20) 23 t23_21) 24 t24_22) 4 (.bool false)) H) (fun Q25 => Q25 .normal (upd (upd (upd (upd (upd (upd (upd (upd (upd (upd (upd e14 15 (e14 13)) 5 (e14 13))
  16 (e14 0)) 17 (e14 13)) 18 t18_18) 19 t19_19) 20 (e14 1)) 21 (e14 13)) 22 t22_20) 23 t23_21) 24 t24_22) H) Q23) Q) fun Q13 => cnd t14_12 (fun Q26 => Q26 .normal (upd
  e 14 t14_12) H) (fun Q27 => Q27 (.exit 0) (upd e 14 t14_12) H) Q13
theorem h29_0 (S : Sys) (e : Fe) (H : Heap) (Q : Kx) : wpC S b29_0 e H Q = s29_0 S e H Q := by kernel_rfl
theorem l29_0 (S : Sys) {Q : Kx} (I : Nat → Fe → Heap → Prop) (d : Nat) {e0 : Fe} {H : Heap} (h0 : I d e0 H) (hr : ∀ (d : Nat) (e : Fe) (H : Heap), I d e H → s29_0 S e H
  (sq (fun e' H' => ∃ d', d' < d ∧ I d' e' H') Q)) : WL S b29_0 e0 H Q := WL_inv I d h0 fun d e H hi => (h29_0 S e H _).mpr (hr d e H hi)
theorem u29_0 (S : Sys) {Q : Kx} {e : Fe} {H : Heap} (h : s29_0 S e H (sq (fun e' H' => WL S b29_0 e' H' Q) Q)) : WL S b29_0 e H Q := WL_once ((h29_0 S e H _).mpr h)
def s29 (S : Sys) (a0 a1 : Value) (H : Heap) (R : Kv) : Prop := run S (.lenL (.c a0)) [] H fun t7_1 H => run S (.lenL (.c a1)) [] H fun t9_2 H => run S (.bin .neq (.c
  t7_1) (.c t9_2)) [] H fun t10_3 H => jn (sq (fun e5 H => run S (.lenL (.c (e5 0))) [] H fun t12_6 H => jn (sq (fun e8 H => R (.bool true) H) (fn [(.t 4)] R)) fun Q7 =>
  jn (blk 0 Q7) fun Q9 => WL S b29_0 (upd (upd (upd e5 11 (e5 0)) 12 t12_6) 13 (.int .i64 0)) H Q9) (fn [(.t 4)] R)) fun Q4 => cnd t10_3 (fun Q10 => Q10 .ret (upd (upd
  (upd (upd (upd (upd (upd (Env.get [a0, a1]) 4 (.bool false)) 6 a0) 7 t7_1) 8 a1) 9 t9_2) 10 t10_3) 4 (.bool false)) H) (fun Q11 => Q11 .normal (upd (upd (upd (upd (upd
  (upd (Env.get [a0, a1]) 4 (.bool false)) 6 a0) 7 t7_1) 8 a1) 9 t9_2) 10 t10_3) H) Q4
theorem h29 (S : Sys) (a0 a1 : Value) (H : Heap) (R : Kv) : wpC S k29.body (Env.get [a0, a1]) H (fn [(.t 4)] R) = s29 S a0 a1 H R := by kernel_rfl
theorem w29 {S : Sys} (hR : S.R 29 = none) (hF : S.F 29 = some k29) (a0 a1 : Value) {H : Heap} {R : Kv} (h : s29 S a0 a1 H R) : Wf S 29 [a0, a1] H R := Wf_sh hR hF ((h29
  S a0 a1 H R).mpr h)
def s30 (S : Sys) (a0 : Value) (H : Heap) (R : Kv) : Prop := run S (.alloc 34 [(.int .i64 0), (.int .i64 0), (.int .i64 0), (.bool false), (.string (bs []))]) [] H fun
  t2_1 H => run S (.alloc 34 [(.int .i64 0), (.int .i64 0), (.int .i64 0), (.bool false), (.string (bs []))]) [] H fun t4_2 H => run S (.lenS (.c a0)) [] H fun t11_3 H
  => run S (.bin .lss (.c t11_3) (.c (.int .i64 2))) [] H fun t12_4 H => gd t12_4 false (run S (.mv (.c a0)) [] H) H fun t14_5 H => gd t12_4 false (run S (.idS (.c
  t14_5) (.c (.int .i64 0))) [] H) H fun t15_6 H => gd t12_4 false (run S (.bin .geq (.c t15_6) (.c (.int .u8 32))) [] H) H fun t16_7 H => run S (.pick (.c t12_4) (.c
  (.bool true)) (.c t16_7)) [] H fun t17_8 H => jn (sq (fun e10 H => run S (.slS (.c (e10 0)) (some (.c (.int .i64 2))) none) [] H fun t21_11 H => run S (.call 94 [(.c
  t21_11)]) [] H fun t22_12 H => run S (.xt (.c t22_12) 0) [] H fun t23_13 H => run S (.xt (.c t22_12) 1) [] H fun t24_14 H => run S (.bin .eql (.c t24_14) (.c (.int
  .i64 0))) [] H fun t26_15 H => gd t26_15 false (run S (.mv (.c t23_13)) [] H) H fun t28_16 H => gd t26_15 false (run S (.bin .gtr (.c t28_16) (.c (.int .u64
  1073741824))) [] H) H fun t29_17 H => run S (.pick (.c t26_15) (.c (.bool true)) (.c t29_17)) [] H fun t30_18 H => jn (sq (fun e20 H => run S (.bin .add (.c (.int .i64
  2)) (.c (e20 6))) [] H fun t35_21 H => run S (.slS (.c (e20 0)) (some (.c t35_21)) none) [] H fun t36_22 H => run S (.call 94 [(.c t36_22)]) [] H fun t37_23 H => run S
  (.xt (.c t37_23) 0) [] H fun t38_24 H => run S (.xt (.c t37_23) 1) [] H fun t39_25 H => run S (.bin .add (.c (.int .i64 2)) (.c (e20 6))) [] H fun t41_26 H => run S
  (.bin .add (.c t41_26) (.c t39_25)) [] H fun t43_27 H => run S (.bin .eql (.c t39_25) (.c (.int .i64 0))) [] H fun t45_28 H => gd t45_28 false (run S (.mv (.c t38_24))
  [] H) H fun t47_29 H => gd t45_28 false (run S (.bin .gtr (.c t47_29) (.c (.int .u64 600))) [] H) H fun t48_30 H => run S (.pick (.c t45_28) (.c (.bool true)) (.c
  t48_30)) [] H fun t49_31 H => gd t49_31 false (run S (.mv (.c t38_24)) [] H) H fun t51_32 H => gd t49_31 false (run S (.mv (.c (e20 0))) [] H) H fun t52_33 H => gd
  t49_31 false (run S (.lenS (.c t52_33)) [] H) H fun t53_34 H => gd t49_31 false (run S (.mv (.c t43_27)) [] H) H fun t54_35 H => gd t49_31 false (run S (.bin .sub (.c
  t53_34) (.c t54_35)) [] H) H fun t55_36 H => gd t49_31 false (run S (.cvt .u64 (.c t55_36)) [] H) H fun t56_37 H => gd t49_31 false (run S (.bin .gtr (.c t51_32) (.c
  t56_37)) [] H) H fun t57_38 H => run S (.pick (.c t49_31) (.c (.bool true)) (.c t57_38)) [] H fun t58_39 H => jn (sq (fun e41 H => run S (.idS (.c (e41 0)) (.c (.int
  .i64 0))) [] H fun t61_42 H => run S (.cvt .i64 (.c t61_42)) [] H fun t62_43 H => run S (.bin .rem (.c t62_43) (.c (.int .i64 16))) [] H fun t63_44 H => run S (.idS
  (.c (e41 0)) (.c (.int .i64 0))) [] H fun t65_45 H => run S (.bin .geq (.c t65_45) (.c (.int .u8 16))) [] H fun t66_46 H => run S (.idS (.c (e41 0)) (.c (.int .i64
  1))) [] H fun t68_47 H => run S (.cvt .i64 (.c t68_47)) [] H fun t69_48 H => run S (.cvt .i64 (.c (e41 5))) [] H fun t71_49 H => run S (.cvt .i64 (.c (e41 7))) [] H
  fun t76_50 H => run S (.bin .add (.c (e41 9)) (.c t76_50)) [] H fun t77_51 H => run S (.slS (.c (e41 0)) (some (.c (e41 9))) (some (.c t77_51))) [] H fun t78_52 H =>
  run S (.build [(.int .i64 0), (.int .i64 0), (.int .i64 0), (.bool false), (.string (bs []))] [(0, (1, (.c t63_44))), (3, (1, (.c t66_46))), (1, (1, (.c t69_48))), (2,
  (1, (.c t71_49))), (4, (1, (.c t78_52)))]) [] H fun t79_53 H => run S (.stn 5 (.c (e41 4)) (.c t79_53)) [] H fun _ H => run S (.ldn 5 (.c (e41 4))) [] H fun t80_54 H
  => run S (.call 25 [(.c t80_54)]) [] H fun t81_55 H => run S (.un .not (.c t81_55)) [] H fun t82_56 H => jn (sq (fun e58 H => run S (.ldn 5 (.c (e58 4))) [] H fun
  t84_59 H => run S (.cvt .i64 (.c (e58 7))) [] H fun t87_60 H => run S (.bin .add (.c (e58 9)) (.c t87_60)) [] H fun t88_61 H => run S (.stn 5 (.c (e58 2)) (.c t84_59))
  [] H fun _ H => (fn [(.cn 2 5), (.t 3)] R) .ret (upd (upd (upd (upd (upd (upd e58 84 t84_59) 85 (e58 9)) 86 (e58 7)) 87 t87_60) 88 t88_61) 3 t88_61) H) (fn [(.cn 2 5),
  (.t 3)] R)) fun Q57 => cnd t82_56 (fun Q62 => run S (.build [(.int .i64 0), (.int .i64 0), (.int .i64 0), (.bool false), (.string (bs []))] []) [] H fun t83_64 H =>
  run S (.stn 5 (.c (e41 2)) (.c t83_64)) [] H fun _ H => Q62 .ret (upd (upd (upd (upd (upd (upd (upd (upd (upd (upd (upd (upd (upd (upd (upd (upd (upd (upd (upd (upd
  (upd (upd (upd (upd (upd e41 60 (e41 0)) 61 t61_42) 62 t62_43) 63 t63_44) 64 (e41 0)) 65 t65_45) 66 t66_46) 67 (e41 0)) 68 t68_47) 69 t69_48) 70 (e41 5)) 71 t71_49) 72
  (e41 0)) 73 (e41 9)) 74 (e41 9)) 75 (e41 7)) 76 t76_50) 77 t77_51) 78 t78_52) 79 t79_53) 80 t80_54) 81 t81_55) 82 t82_56) 83 t83_64) 3 (.int .i64 0)) H) (fun Q63 =>
  Q63 .normal (upd (upd (upd (upd (upd (upd (upd (upd (upd (upd (upd (upd (upd (upd (upd (upd (upd (upd (upd (upd (upd (upd (upd e41 60 (e41 0)) 61 t61_42) 62 t62_43) 63
  t63_44) 64 (e41 0)) 65 t65_45) 66 t66_46) 67 (e41 0)) 68 t68_47) 69 t69_48) 70 (e41 5)) 71 t71_49) 72 (e41 0)) 73 (e41 9)) 74 (e41 9)) 75 (e41 7)) 76 t76_50) 77
  t77_51) 78 t78_52) 79 t79_53) 80 t80_54) 81 t81_55) 82 t82_56) H) Q57) (fn [(.cn 2 5), (.t 3)] R)) fun Q40 => cnd t58_39 (fun Q65 => run S (.ldn 5 (.c (e20 4))) [] H
  fun t59_67 H => run S (.stn 5 (.c (e20 2)) (.c t59_67)) [] H fun _ H => Q65 .ret (upd (upd (upd (upd (upd (upd (upd (upd (upd (upd (upd (upd (upd (upd (upd (upd (upd
  (upd (upd (upd (upd (upd (upd (upd (upd (upd (upd (upd (upd (upd (upd (upd e20 33 (e20 0)) 34 (e20 6)) 35 t35_21) 36 t36_22) 37 t37_23) 32 t37_23) 38 t38_24) 39
  t39_25) 7 t38_24) 8 t39_25) 40 (e20 6)) 41 t41_26) 42 t39_25) 43 t43_27) 9 t43_27) 44 t39_25) 45 t45_28) 46 t45_28) 47 t47_29) 48 t48_30) 49 t49_31) 50 t49_31) 51
  t51_32) 52 t52_33) 53 t53_34) 54 t54_35) 55 t55_36) 56 t56_37) 57 t57_38) 58 t58_39) 59 t59_67) 3 (.int .i64 0)) H) (fun Q66 => Q66 .normal (upd (upd (upd (upd (upd
  (upd (upd (upd (upd (upd (upd (upd (upd (upd (upd (upd (upd (upd (upd (upd (upd (upd (upd (upd (upd (upd (upd (upd (upd (upd e20 33 (e20 0)) 34 (e20 6)) 35 t35_21) 36
  t36_22) 37 t37_23) 32 t37_23) 38 t38_24) 39 t39_25) 7 t38_24) 8 t39_25) 40 (e20 6)) 41 t41_26) 42 t39_25) 43 t43_27) 9 t43_27) 44 t39_25) 45 t45_28) 46 t45_28) 47
  t47_29) 48 t48_30) 49 t49_31) 50 t49_31) 51 t51_32) 52 t52_33) 53 t53_34) 54 t54_35) 55 t55_36) 56 t56_37) 57 t57_38) 58 t58_39) H) Q40) (fn [(.cn 2 5), (.t 3)] R))
  fun Q19 => cnd t30_18 (fun Q68 => run S (.ldn 5 (.c (e10 4))) [] H fun t31_70 H => run S (.stn 5 (.c (e10 2)) (.c t31_70)) [] H fun _ H => Q68 .ret (upd (upd (upd (upd
  (upd (upd (upd (upd (upd (upd (upd (upd (upd (upd (upd (upd e10 20 (e10 0)) 21 t21_11) 22 t22_12) 19 t22_12) 23 t23_13) 24 t24_14) 5 t23_13) 6 t24_14) 25 t24_14) 26
  t26_15) 27 t26_15) 28 t28_16) 29 t29_17) 30 t30_18) 31 t31_70) 3 (.int .i64 0)) H) (fun Q69 => Q69 .normal (upd (upd (upd (upd (upd (upd (upd (upd (upd (upd (upd (upd
  (upd (upd e10 20 (e10 0)) 21 t21_11) 22 t22_12) 19 t22_12) 23 t23_13) 24 t24_14) 5 t23_13) 6 t24_14) 25 t24_14) 26 t26_15) 27 t26_15) 28 t28_16) 29 t29_17) 30 t30_18)
  H) Q19) (fn [(.cn 2 5), (.t 3)] R)) fun Q9 => cnd t17_8 (fun Q71 => run S (.ldn 5 (.c t4_2)) [] H fun t18_73 H => run S (.stn 5 (.c t2_1) (.c t18_73)) [] H fun _ H =>
  Q71 .ret (upd (upd (upd (upd (upd (upd (upd (upd (upd (upd (upd (upd (upd (Env.get [a0]) 2 t2_1) 3 (.int .i64 0)) 4 t4_2) 10 a0) 11 t11_3) 12 t12_4) 13 t12_4) 14
  t14_5) 15 t15_6) 16 t16_7) 17 t17_8) 18 t18_73) 3 (.int .i64 0)) H) (fun Q72 => Q72 .normal (upd (upd (upd (upd (upd (upd (upd (upd (upd (upd (upd (Env.get [a0]) 2
  t2_1) 3 (.int .i64 0)) 4 t4_2) 10 a0) 11 t11_3) 12 t12_4) 13 t12_4) 14 t14_5) 15 t15_6) 16 t16_7) 17 t17_8) H) Q9
theorem h30 (S : Sys) (a0 : Value) (H : Heap) (R : Kv) : wpC S k30.body (Env.get [a0]) H (fn [(.cn 2 5), (.t 3)] R) = s30 S a0 H R := by kernel_rfl
theorem w30 {S : Sys} (hR : S.R 30 = none) (hF : S.F 30 = some k30) (a0 : Value) {H : Heap} {R : Kv} (h : s30 S a0 H R) : Wf S 30 [a0] H R := Wf_sh hR hF ((h30 S a0 H
  R).mpr h)
def b32_0 : KCode := (.seq (.seq (.reg [(.op (some 9) none (.mv (.t 5))), (.op (some 10) none (.mv (.t 0))), (.op (some 11) none (.lenL (.t 10))), (.op (some 12) none
  (.bin .lss (.t 9) (.t 11)))]) (.cond (.t 12) .skip (.exit 0))) (.seq (.block 1 (.seq (.reg [(.op (some 15) none (.mv (.t 0))), (.op (some 16) none (.mv (.t 5))), (.op
  (some 17) none (.iad 1 (.t 15) (.t 16))), (.op (some 18) none (.ld (.t 17))), (.op (some 19) none (.bin .gtr (.t 18) (.c (.int .i64 0))))]) (.cond (.t 19) (.seq (.reg
  [(.op (some 20) none (.mv (.t 3))), (.op (some 21) none (.mv (.t 0))), (.op (some 22) none (.mv (.t 5))), (.op (some 23) none (.iad 1 (.t 21) (.t 22))), (.op (some 24)
  none (.ld (.t 23))), (.op (some 25) none (.bin .sub (.c (.int .i64 11)) (.t 24))), (.op (some 26) none (.call 95 [(.t 25)])), (.op (some 27) none (.bin .add (.t 20)
  (.t 26))), (.op (some 3) none (.mv (.t 27)))]) (.reg [(.op (some 28) none (.mv (.t 4))), (.op (some 29) none (.bin .add (.t 28) (.c (.int .i64 1)))), (.op (some 4)
  none (.mv (.t 29)))])) .skip))) (.reg [(.op (some 13) none (.mv (.t 5))), (.op (some 14) none (.bin .add (.t 13) (.c (.int .i64 1)))), (.op (some 5) none (.mv (.t
  14)))])))
def s32_0 (S : Sys) (e : Fe) (H : Heap) (Q : Kx) : Prop := run S (.lenL (.c (e 0))) [] H fun t11_18 H => run S (.bin .lss (.c (e 5)) (.c t11_18)) [] H fun t12_19 H => jn
  (sq (fun e21 H => jn (sq (fun e23 H => run S (.bin .add (.c (e23 5)) (.c (.int .i64 1))) [] H fun t14_24 H => Q .normal (upd (upd (upd e23 13 (e23 5)) 14 t14_24) 5
  t14_24) H) Q) fun Q22 => run S (.iad 1 (.c (e21 0)) (.c (e21 5))) [] H fun t17_25 H => run S (.ld (.c t17_25)) [] H fun t18_26 H => run S (.bin .gtr (.c t18_26) (.c
  (.int .i64 0))) [] H fun t19_27 H => jn (blk 1 Q22) fun Q28 => cnd t19_27 (fun Q29 => run S (.iad 1 (.c (e21 0)) (.c (e21 5))) [] H fun t23_31 H => run S (.ld (.c
  t23_31)) [] H fun t24_32 H => run S (.bin .sub (.c (.int .i64 11)) (.c t24_32)) [] H fun t25_33 H => run S (.call 95 [(.c t25_33)]) [] H fun t26_34 H => run S (.bin
  .add (.c (e21 3)) (.c t26_34)) [] H fun t27_35 H => run S (.bin .add (.c (e21 4)) (.c (.int .i64 1))) [] H fun t29_36 H => Q29 .normal (upd (upd (upd (upd (upd (upd
  (upd (upd (upd (upd (upd (upd (upd (upd (upd (upd (upd e21 15 (e21 0)) 16 (e21 5)) 17 t17_25) 18 t18_26) 19 t19_27) 20 (e21 3)) 21 (e21 0)) 22 (e21 5)) 23 t23_31) 24
  t24_32) 25 t25_33) 26 t26_34) 27 t27_35) 3 t27_35) 28 (e21 4)) 29 t29_36) 4 t29_36) H) (fun Q30 => Q30 .normal (upd (upd (upd (upd (upd e21 15 (e21 0)) 16 (e21 5)) 17
  t17_25) 18 t18_26) 19 t19_27) H) Q28) Q) fun Q20 => cnd t12_19 (fun Q37 => Q37 .normal (upd (upd (upd (upd e 9 (e 5)) 10 (e 0)) 11 t11_18) 12 t12_19) H) (fun Q38 =>
  Q38 (.exit 0) (upd (upd (upd (upd e 9 (e 5)) 10 (e 0)) 11 t11_18) 12 t12_19) H) Q20
theorem h32_0 (S : Sys) (e : Fe) (H : Heap) (Q : Kx) : wpC S b32_0 e H Q = s32_0 S e H Q := by kernel_rfl
theorem l32_0 (S : Sys) {Q : Kx} (I : Nat → Fe → Heap → Prop) (d : Nat) {e0 : Fe} {H : Heap} (h0 : I d e0 H) (hr : ∀ (d : Nat) (e : Fe) (H : Heap), I d e H → s32_0 S e H
  (sq (fun e' H' => ∃ d', d' < d ∧ I d' e' H') Q)) : WL S b32_0 e0 H Q := WL_inv I d h0 fun d e H hi => (h32_0 S e H _).mpr (hr d e H hi)
theorem u32_0 (S : Sys) {Q : Kx} {e : Fe} {H : Heap} (h : s32_0 S e H (sq (fun e' H' => WL S b32_0 e' H' Q) Q)) : WL S b32_0 e H Q := WL_once ((h32_0 S e H _).mpr h)
def s32 (S : Sys) (a0 : Value) (H : Heap) (R : Kv) : Prop := run S (.call 73 [(.c a0)]) [] H fun t7_1 H => run S (.un .not (.c t7_1)) [] H fun t8_2 H => jn (sq (fun e4 H
  => jn (sq (fun e6 H => run S (.bin .eql (.c (e6 3)) (.c (.int .i64 2048))) [] H fun t31_7 H => gd t31_7 false (run S (.mv (.c (e6 4))) [] H) H fun t33_8 H => gd t31_7
  false (run S (.bin .eql (.c t33_8) (.c (.int .i64 1))) [] H) H fun t34_9 H => gd t31_7 false (run S (.mv (.c t34_9)) [] H) H fun t35_10 H => gd t35_10 true (run S (.mv
  (.c (e6 3))) [] H) H fun t36_11 H => gd t35_10 true (run S (.bin .eql (.c t36_11) (.c (.int .i64 1024))) [] H) H fun t37_12 H => gd t31_7 false (run S (.pick (.c
  t35_10) (.c t37_12) (.c (.bool false))) [] H) H fun t38_13 H => run S (.pick (.c t31_7) (.c (.bool true)) (.c t38_13)) [] H fun t39_14 H => R t39_14 H) (fn [(.t 2)]
  R)) fun Q5 => jn (blk 0 Q5) fun Q15 => WL S b32_0 (upd (upd (upd e4 3 (.int .i64 0)) 4 (.int .i64 0)) 5 (.int .i64 0)) H Q15) (fn [(.t 2)] R)) fun Q3 => cnd t8_2 (fun
  Q16 => Q16 .ret (upd (upd (upd (upd (upd (Env.get [a0]) 2 (.bool false)) 6 a0) 7 t7_1) 8 t8_2) 2 (.bool false)) H) (fun Q17 => Q17 .normal (upd (upd (upd (upd (Env.get
  [a0]) 2 (.bool false)) 6 a0) 7 t7_1) 8 t8_2) H) Q3
theorem h32 (S : Sys) (a0 : Value) (H : Heap) (R : Kv) : wpC S k32.body (Env.get [a0]) H (fn [(.t 2)] R) = s32 S a0 H R := by kernel_rfl
theorem w32 {S : Sys} (hR : S.R 32 = none) (hF : S.F 32 = some k32) (a0 : Value) {H : Heap} {R : Kv} (h : s32 S a0 H R) : Wf S 32 [a0] H R := Wf_sh hR hF ((h32 S a0 H
  R).mpr h)
def b33_0 : KCode := (.seq (.reg [(.op (some 34) none (.bin .lss (.t 33) (.t 32)))]) (.seq (.cond (.t 34) .skip (.exit 0)) (.seq (.block 1 (.seq (.reg [(.op (some 36)
  none (.mv (.t 8))), (.op (some 37) none (.mv (.t 9))), (.op (some 38) none (.call 98 [(.t 36), (.t 37)])), (.op (some 35) none (.mv (.t 38))), (.op (some 39) none (.xt
  (.t 35) 0)), (.op (some 40) none (.xt (.t 35) 1)), (.op (some 11) none (.mv (.t 39))), (.op (some 12) none (.mv (.t 40)))]) (.seq (.seq (.reg [(.op (some 41) none (.mv
  (.t 12))), (.op (some 42) none (.un .not (.t 41)))]) (.cond (.t 42) (.seq (.reg [(.op (some 6) none (.mv (.c (.slice none 0 0)))), (.op (some 7) none (.mv (.c (.bool
  false))))]) .ret) .skip)) (.reg [(.op (some 43) none (.mv (.t 10))), (.op (some 44) none (.mv (.t 11))), (.op (some 45) none (.bsl 5 1 [(.int .u8 0)] [(0, (1, (.t
  44)))])), (.op (some 46) none (.app 5 1 1 (.t 43) (.t 45))), (.op (some 10) none (.mv (.t 46)))])))) (.reg [(.op (some 47) none (.bin .add (.t 33) (.c (.int .i64
  1)))), (.op (some 33) none (.mv (.t 47)))]))))
def s33_0 (S : Sys) (e : Fe) (H : Heap) (Q : Kx) : Prop := run S (.bin .lss (.c (e 33)) (.c (e 32))) [] H fun t34_32 H => jn (sq (fun e34 H => jn (sq (fun e36 H => run S
  (.bin .add (.c (e36 33)) (.c (.int .i64 1))) [] H fun t47_37 H => Q .normal (upd (upd e36 47 t47_37) 33 t47_37) H) Q) fun Q35 => run S (.call 98 [(.c (e34 8)), (.c
  (e34 9))]) [] H fun t38_38 H => run S (.xt (.c t38_38) 0) [] H fun t39_39 H => run S (.xt (.c t38_38) 1) [] H fun t40_40 H => run S (.un .not (.c t40_40)) [] H fun
  t42_41 H => jn (blk 1 Q35) fun Q42 => jn (sq (fun e44 H => run S (.bsl 5 1 [(.int .u8 0)] [(0, (1, (.c (e44 11))))]) [] H fun t45_45 H => run S (.app 5 1 1 (.c (e44
  10)) (.c t45_45)) [] H fun t46_46 H => Q42 .normal (upd (upd (upd (upd (upd e44 43 (e44 10)) 44 (e44 11)) 45 t45_45) 46 t46_46) 10 t46_46) H) Q42) fun Q43 => cnd
  t42_41 (fun Q47 => Q47 .ret (upd (upd (upd (upd (upd (upd (upd (upd (upd (upd (upd (upd e34 36 (e34 8)) 37 (e34 9)) 38 t38_38) 35 t38_38) 39 t39_39) 40 t40_40) 11
  t39_39) 12 t40_40) 41 t40_40) 42 t42_41) 6 (.slice none 0 0)) 7 (.bool false)) H) (fun Q48 => Q48 .normal (upd (upd (upd (upd (upd (upd (upd (upd (upd (upd e34 36 (e34
  8)) 37 (e34 9)) 38 t38_38) 35 t38_38) 39 t39_39) 40 t40_40) 11 t39_39) 12 t40_40) 41 t40_40) 42 t42_41) H) Q43) Q) fun Q33 => cnd t34_32 (fun Q49 => Q49 .normal (upd e
  34 t34_32) H) (fun Q50 => Q50 (.exit 0) (upd e 34 t34_32) H) Q33
theorem h33_0 (S : Sys) (e : Fe) (H : Heap) (Q : Kx) : wpC S b33_0 e H Q = s33_0 S e H Q := by kernel_rfl
theorem l33_0 (S : Sys) {Q : Kx} (I : Nat → Fe → Heap → Prop) (d : Nat) {e0 : Fe} {H : Heap} (h0 : I d e0 H) (hr : ∀ (d : Nat) (e : Fe) (H : Heap), I d e H → s33_0 S e H
  (sq (fun e' H' => ∃ d', d' < d ∧ I d' e' H') Q)) : WL S b33_0 e0 H Q := WL_inv I d h0 fun d e H hi => (h33_0 S e H _).mpr (hr d e H hi)
theorem u33_0 (S : Sys) {Q : Kx} {e : Fe} {H : Heap} (h : s33_0 S e H (sq (fun e' H' => WL S b33_0 e' H' Q) Q)) : WL S b33_0 e H Q := WL_once ((h33_0 S e H _).mpr h)
def s33 (S : Sys) (a0 a1 a2 : Value) (H : Heap) (R : Kv) : Prop := run S (.call 68 [(.c a0)]) [] H fun t17_1 H => run S (.un .not (.c t17_1)) [] H fun t18_2 H => gd
  t18_2 false (run S (.mv (.c a2)) [] H) H fun t20_3 H => gd t18_2 false (run S (.bin .lss (.c t20_3) (.c (.int .i64 0))) [] H) H fun t21_4 H => run S (.pick (.c t18_2)
  (.c (.bool true)) (.c t21_4)) [] H fun t22_5 H => gd t22_5 false (run S (.mv (.c a2)) [] H) H fun t24_6 H => gd t22_5 false (run S (.bin .gtr (.c t24_6) (.c (.int .i64
  1048576))) [] H) H fun t25_7 H => run S (.pick (.c t22_5) (.c (.bool true)) (.c t25_7)) [] H fun t26_8 H => jn (sq (fun e10 H => run S (.call 96 [(.c (e10 0))]) [] H
  fun t28_11 H => run S (.s2b 5 (.c (e10 1))) [] H fun t30_12 H => run S (.call 97 [(.c t30_12)]) [] H fun t31_13 H => jn (sq (fun e15 H => run S (.call 99 [(.c (e15
  9))]) [] H fun t49_16 H => run S (.mn (.c t49_16) [(.c (.int .i64 8))]) [] H fun t53_17 H => run S (.call 100 [(.c (e15 9)), (.c t53_17)]) [] H fun t54_18 H => run S
  (.xt (.c t54_18) 0) [] H fun t55_19 H => run S (.xt (.c t54_18) 1) [] H fun t56_20 H => run S (.bin .gtr (.c t49_16) (.c (.int .i64 7))) [] H fun t58_21 H => gd t58_21
  false (run S (.mv (.c t55_19)) [] H) H fun t60_22 H => gd t58_21 false (run S (.bin .neq (.c t60_22) (.c (.int .u32 0))) [] H) H fun t61_23 H => run S (.pick (.c
  t58_21) (.c (.bool true)) (.c t61_23)) [] H fun t62_24 H => jn (sq (fun e26 H => R (tup [(e26 10), (.bool true)]) H) (fn [(.t 6), (.t 7)] R)) fun Q25 => cnd t62_24
  (fun Q27 => Q27 .ret (upd (upd (upd (upd (upd (upd (upd (upd (upd (upd (upd (upd (upd (upd (upd (upd (upd (upd (upd (upd e15 48 (e15 9)) 49 t49_16) 13 t49_16) 51 (e15
  9)) 52 t49_16) 53 t53_17) 54 t54_18) 50 t54_18) 55 t55_19) 56 t56_20) 14 t55_19) 15 t56_20) 57 t49_16) 58 t58_21) 59 t58_21) 60 t60_22) 61 t61_23) 62 t62_24) 6 (.slice
  none 0 0)) 7 (.bool false)) H) (fun Q28 => Q28 .normal (upd (upd (upd (upd (upd (upd (upd (upd (upd (upd (upd (upd (upd (upd (upd (upd (upd (upd e15 48 (e15 9)) 49
  t49_16) 13 t49_16) 51 (e15 9)) 52 t49_16) 53 t53_17) 54 t54_18) 50 t54_18) 55 t55_19) 56 t56_20) 14 t55_19) 15 t56_20) 57 t49_16) 58 t58_21) 59 t58_21) 60 t60_22) 61
  t61_23) 62 t62_24) H) Q25) (fn [(.t 6), (.t 7)] R)) fun Q14 => jn (blk 0 Q14) fun Q29 => WL S b33_0 (upd (upd (upd (upd (upd (upd (upd (upd (upd (upd e10 27 (e10 0))
  28 t28_11) 29 (e10 1)) 30 t30_12) 31 t31_13) 8 t28_11) 9 t31_13) 10 (.slice none 0 0)) 32 (e10 2)) 33 (.int .i64 0)) H Q29) (fn [(.t 6), (.t 7)] R)) fun Q9 => cnd
  t26_8 (fun Q30 => Q30 .ret (upd (upd (upd (upd (upd (upd (upd (upd (upd (upd (upd (upd (upd (upd (upd (Env.get [a0, a1, a2]) 6 (.slice none 0 0)) 7 (.bool false)) 16
  a0) 17 t17_1) 18 t18_2) 19 t18_2) 20 t20_3) 21 t21_4) 22 t22_5) 23 t22_5) 24 t24_6) 25 t25_7) 26 t26_8) 6 (.slice none 0 0)) 7 (.bool false)) H) (fun Q31 => Q31
  .normal (upd (upd (upd (upd (upd (upd (upd (upd (upd (upd (upd (upd (upd (Env.get [a0, a1, a2]) 6 (.slice none 0 0)) 7 (.bool false)) 16 a0) 17 t17_1) 18 t18_2) 19
  t18_2) 20 t20_3) 21 t21_4) 22 t22_5) 23 t22_5) 24 t24_6) 25 t25_7) 26 t26_8) H) Q9
theorem h33 (S : Sys) (a0 a1 a2 : Value) (H : Heap) (R : Kv) : wpC S k33.body (Env.get [a0, a1, a2]) H (fn [(.t 6), (.t 7)] R) = s33 S a0 a1 a2 H R := by kernel_rfl
theorem w33 {S : Sys} (hR : S.R 33 = none) (hF : S.F 33 = some k33) (a0 a1 a2 : Value) {H : Heap} {R : Kv} (h : s33 S a0 a1 a2 H R) : Wf S 33 [a0, a1, a2] H R := Wf_sh
  hR hF ((h33 S a0 a1 a2 H R).mpr h)
def b34_3 : KCode := (.seq (.seq (.reg [(.op (some 40) none (.mv (.t 14))), (.op (some 41) none (.mv (.t 0))), (.op (some 42) none (.lenL (.t 41))), (.op (some 43) none
  (.bin .lss (.t 40) (.t 42)))]) (.cond (.t 43) .skip (.exit 4))) (.seq (.block 5 (.seq (.reg [(.op (some 46) none (.mv (.t 0))), (.op (some 47) none (.mv (.t 14))),
  (.op (some 48) none (.iad 1 (.t 46) (.t 47))), (.op (some 49) none (.ld (.t 48))), (.op (some 50) none (.bin .gtr (.t 49) (.c (.int .i64 0)))), (.op (some 51) none
  (.mv (.t 50))), (.op (some 52) (some (51, true)) (.mv (.t 10))), (.op (some 53) (some (51, true)) (.mv (.t 14))), (.op (some 54) (some (51, true)) (.iada 256 1 (.t 8)
  (.t 53))), (.op (some 55) (some (51, true)) (.ld (.t 54))), (.op (some 56) (some (51, true)) (.call 103 [(.t 52), (.t 55)])), (.op (some 57) none (.pick (.t 51) (.t
  56) (.c (.bool false))))]) (.cond (.t 57) (.reg [(.op (some 58) none (.mv (.t 14))), (.op (some 13) none (.mv (.t 58)))]) .skip))) (.reg [(.op (some 44) none (.mv (.t
  14))), (.op (some 45) none (.bin .add (.t 44) (.c (.int .i64 1)))), (.op (some 14) none (.mv (.t 45)))])))
def s34_3 (S : Sys) (e : Fe) (H : Heap) (Q : Kx) : Prop := run S (.lenL (.c (e 0))) [] H fun t42_71 H => run S (.bin .lss (.c (e 14)) (.c t42_71)) [] H fun t43_72 H =>
  jn (sq (fun e74 H => jn (sq (fun e76 H => run S (.bin .add (.c (e76 14)) (.c (.int .i64 1))) [] H fun t45_77 H => Q .normal (upd (upd (upd e76 44 (e76 14)) 45 t45_77)
  14 t45_77) H) Q) fun Q75 => run S (.iad 1 (.c (e74 0)) (.c (e74 14))) [] H fun t48_78 H => run S (.ld (.c t48_78)) [] H fun t49_79 H => run S (.bin .gtr (.c t49_79)
  (.c (.int .i64 0))) [] H fun t50_80 H => gd t50_80 true (run S (.mv (.c (e74 10))) [] H) H fun t52_81 H => gd t50_80 true (run S (.mv (.c (e74 14))) [] H) H fun t53_82
  H => gd t50_80 true (run S (.iada 256 1 (.c (e74 8)) (.c t53_82)) [] H) H fun t54_83 H => gd t50_80 true (run S (.ld (.c t54_83)) [] H) H fun t55_84 H => gd t50_80
  true (run S (.call 103 [(.c t52_81), (.c t55_84)]) [] H) H fun t56_85 H => run S (.pick (.c t50_80) (.c t56_85) (.c (.bool false))) [] H fun t57_86 H => jn (blk 5 Q75)
  fun Q87 => cnd t57_86 (fun Q88 => Q88 .normal (upd (upd (upd (upd (upd (upd (upd (upd (upd (upd (upd (upd (upd (upd e74 46 (e74 0)) 47 (e74 14)) 48 t48_78) 49 t49_79)
  50 t50_80) 51 t50_80) 52 t52_81) 53 t53_82) 54 t54_83) 55 t55_84) 56 t56_85) 57 t57_86) 58 (e74 14)) 13 (e74 14)) H) (fun Q89 => Q89 .normal (upd (upd (upd (upd (upd
  (upd (upd (upd (upd (upd (upd (upd e74 46 (e74 0)) 47 (e74 14)) 48 t48_78) 49 t49_79) 50 t50_80) 51 t50_80) 52 t52_81) 53 t53_82) 54 t54_83) 55 t55_84) 56 t56_85) 57
  t57_86) H) Q87) Q) fun Q73 => cnd t43_72 (fun Q90 => Q90 .normal (upd (upd (upd (upd e 40 (e 14)) 41 (e 0)) 42 t42_71) 43 t43_72) H) (fun Q91 => Q91 (.exit 4) (upd
  (upd (upd (upd e 40 (e 14)) 41 (e 0)) 42 t42_71) 43 t43_72) H) Q73
theorem h34_3 (S : Sys) (e : Fe) (H : Heap) (Q : Kx) : wpC S b34_3 e H Q = s34_3 S e H Q := by kernel_rfl
theorem l34_3 (S : Sys) {Q : Kx} (I : Nat → Fe → Heap → Prop) (d : Nat) {e0 : Fe} {H : Heap} (h0 : I d e0 H) (hr : ∀ (d : Nat) (e : Fe) (H : Heap), I d e H → s34_3 S e H
  (sq (fun e' H' => ∃ d', d' < d ∧ I d' e' H') Q)) : WL S b34_3 e0 H Q := WL_inv I d h0 fun d e H hi => (h34_3 S e H _).mpr (hr d e H hi)
theorem u34_3 (S : Sys) {Q : Kx} {e : Fe} {H : Heap} (h : s34_3 S e H (sq (fun e' H' => WL S b34_3 e' H' Q) Q)) : WL S b34_3 e H Q := WL_once ((h34_3 S e H _).mpr h)
def b34_2 : KCode := (.seq (.seq (.reg [(.op (some 16) none (.mv (.t 9))), (.op (some 17) none (.mv (.t 0))), (.op (some 18) none (.lenL (.t 17))), (.op (some 19) none
  (.bin .lss (.t 16) (.t 18)))]) (.cond (.t 19) .skip (.exit 0))) (.seq (.block 1 (.seq (.reg [(.op (some 22) none (.mv (.t 0))), (.op (some 23) none (.mv (.t 9))), (.op
  (some 24) none (.iad 1 (.t 22) (.t 23))), (.op (some 25) none (.ld (.t 24))), (.op (some 26) none (.bin .gtr (.t 25) (.c (.int .i64 0))))]) (.cond (.t 26) (.reg [(.op
  (some 27) none (.mv (.t 9))), (.op (some 28) none (.mv (.t 0))), (.op (some 29) none (.mv (.t 9))), (.op (some 30) none (.call 101 [(.t 28), (.t 29)])), (.op (some 31)
  none (.iada 256 1 (.t 8) (.t 27))), (.op none none (.st (.t 31) (.t 30)))]) .skip))) (.reg [(.op (some 20) none (.mv (.t 9))), (.op (some 21) none (.bin .add (.t 20)
  (.c (.int .i64 1)))), (.op (some 9) none (.mv (.t 21)))])))
def s34_2 (S : Sys) (e : Fe) (H : Heap) (Q : Kx) : Prop := run S (.lenL (.c (e 0))) [] H fun t18_54 H => run S (.bin .lss (.c (e 9)) (.c t18_54)) [] H fun t19_55 H => jn
  (sq (fun e57 H => jn (sq (fun e59 H => run S (.bin .add (.c (e59 9)) (.c (.int .i64 1))) [] H fun t21_60 H => Q .normal (upd (upd (upd e59 20 (e59 9)) 21 t21_60) 9
  t21_60) H) Q) fun Q58 => run S (.iad 1 (.c (e57 0)) (.c (e57 9))) [] H fun t24_61 H => run S (.ld (.c t24_61)) [] H fun t25_62 H => run S (.bin .gtr (.c t25_62) (.c
  (.int .i64 0))) [] H fun t26_63 H => jn (blk 1 Q58) fun Q64 => cnd t26_63 (fun Q65 => run S (.call 101 [(.c (e57 0)), (.c (e57 9))]) [] H fun t30_67 H => run S (.iada
  256 1 (.c (e57 8)) (.c (e57 9))) [] H fun t31_68 H => run S (.st (.c t31_68) (.c t30_67)) [] H fun _ H => Q65 .normal (upd (upd (upd (upd (upd (upd (upd (upd (upd (upd
  e57 22 (e57 0)) 23 (e57 9)) 24 t24_61) 25 t25_62) 26 t26_63) 27 (e57 9)) 28 (e57 0)) 29 (e57 9)) 30 t30_67) 31 t31_68) H) (fun Q66 => Q66 .normal (upd (upd (upd (upd
  (upd e57 22 (e57 0)) 23 (e57 9)) 24 t24_61) 25 t25_62) 26 t26_63) H) Q64) Q) fun Q56 => cnd t19_55 (fun Q69 => Q69 .normal (upd (upd (upd (upd e 16 (e 9)) 17 (e 0)) 18
  t18_54) 19 t19_55) H) (fun Q70 => Q70 (.exit 0) (upd (upd (upd (upd e 16 (e 9)) 17 (e 0)) 18 t18_54) 19 t19_55) H) Q56
theorem h34_2 (S : Sys) (e : Fe) (H : Heap) (Q : Kx) : wpC S b34_2 e H Q = s34_2 S e H Q := by kernel_rfl
theorem l34_2 (S : Sys) {Q : Kx} (I : Nat → Fe → Heap → Prop) (d : Nat) {e0 : Fe} {H : Heap} (h0 : I d e0 H) (hr : ∀ (d : Nat) (e : Fe) (H : Heap), I d e H → s34_2 S e H
  (sq (fun e' H' => ∃ d', d' < d ∧ I d' e' H') Q)) : WL S b34_2 e0 H Q := WL_inv I d h0 fun d e H hi => (h34_2 S e H _).mpr (hr d e H hi)
theorem u34_2 (S : Sys) {Q : Kx} {e : Fe} {H : Heap} (h : s34_2 S e H (sq (fun e' H' => WL S b34_2 e' H' Q) Q)) : WL S b34_2 e H Q := WL_once ((h34_2 S e H _).mpr h)
def b34_1 : KCode := (.seq (.seq (.reg [(.op (some 35) none (.mv (.t 12))), (.op (some 36) none (.mv (.t 2))), (.op (some 37) none (.bin .lss (.t 35) (.t 36)))]) (.cond
  (.t 37) .skip (.exit 2))) (.seq (.block 3 (.seq (.reg [(.op (some 13) none (.mv (.c (.int .i64 (-1)))))]) (.seq (.seq (.reg [(.op (some 14) none (.mv (.c (.int .i64
  0))))]) (.block 4 (.loop (.seq (.seq (.reg [(.op (some 40) none (.mv (.t 14))), (.op (some 41) none (.mv (.t 0))), (.op (some 42) none (.lenL (.t 41))), (.op (some 43)
  none (.bin .lss (.t 40) (.t 42)))]) (.cond (.t 43) .skip (.exit 4))) (.seq (.block 5 (.seq (.reg [(.op (some 46) none (.mv (.t 0))), (.op (some 47) none (.mv (.t
  14))), (.op (some 48) none (.iad 1 (.t 46) (.t 47))), (.op (some 49) none (.ld (.t 48))), (.op (some 50) none (.bin .gtr (.t 49) (.c (.int .i64 0)))), (.op (some 51)
  none (.mv (.t 50))), (.op (some 52) (some (51, true)) (.mv (.t 10))), (.op (some 53) (some (51, true)) (.mv (.t 14))), (.op (some 54) (some (51, true)) (.iada 256 1
  (.t 8) (.t 53))), (.op (some 55) (some (51, true)) (.ld (.t 54))), (.op (some 56) (some (51, true)) (.call 103 [(.t 52), (.t 55)])), (.op (some 57) none (.pick (.t 51)
  (.t 56) (.c (.bool false))))]) (.cond (.t 57) (.reg [(.op (some 58) none (.mv (.t 14))), (.op (some 13) none (.mv (.t 58)))]) .skip))) (.reg [(.op (some 44) none (.mv
  (.t 14))), (.op (some 45) none (.bin .add (.t 44) (.c (.int .i64 1)))), (.op (some 14) none (.mv (.t 45)))])))))) (.seq (.seq (.reg [(.op (some 59) none (.mv (.t
  13))), (.op (some 60) none (.bin .lss (.t 59) (.c (.int .i64 0))))]) (.cond (.t 60) (.seq (.reg [(.op (some 6) none (.mv (.c (.slice none 0 0)))), (.op (some 7) none
  (.mv (.c (.bool false))))]) .ret) .skip)) (.seq (.reg [(.op (some 61) none (.mv (.t 11))), (.op (some 62) none (.mv (.t 13))), (.op (some 63) none (.cvt .u8 (.t 62))),
  (.op (some 64) none (.bsl 5 1 [(.int .u8 0)] [(0, (1, (.t 63)))])), (.op (some 65) none (.app 5 1 1 (.t 61) (.t 64))), (.op (some 11) none (.mv (.t 65)))]) (.reg [(.op
  (some 66) none (.mv (.t 10))), (.op (some 67) none (.mv (.t 0))), (.op (some 68) none (.mv (.t 13))), (.op (some 69) none (.iad 1 (.t 67) (.t 68))), (.op (some 70)
  none (.ld (.t 69))), (.op (some 71) none (.slc 3 1 (.t 66) (some (.t 70)) none)), (.op (some 10) none (.mv (.t 71)))])))))) (.reg [(.op (some 38) none (.mv (.t 12))),
  (.op (some 39) none (.bin .add (.t 38) (.c (.int .i64 1)))), (.op (some 12) none (.mv (.t 39)))])))
def s34_1 (S : Sys) (e : Fe) (H : Heap) (Q : Kx) : Prop := run S (.bin .lss (.c (e 12)) (.c (e 2))) [] H fun t37_31 H => jn (sq (fun e33 H => jn (sq (fun e35 H => run S
  (.bin .add (.c (e35 12)) (.c (.int .i64 1))) [] H fun t39_36 H => Q .normal (upd (upd (upd e35 38 (e35 12)) 39 t39_36) 12 t39_36) H) Q) fun Q34 => jn (blk 3 Q34) fun
  Q37 => jn (sq (fun e39 H => run S (.bin .lss (.c (e39 13)) (.c (.int .i64 0))) [] H fun t60_40 H => jn (sq (fun e42 H => run S (.cvt .u8 (.c (e42 13))) [] H fun t63_43
  H => run S (.bsl 5 1 [(.int .u8 0)] [(0, (1, (.c t63_43)))]) [] H fun t64_44 H => run S (.app 5 1 1 (.c (e42 11)) (.c t64_44)) [] H fun t65_45 H => run S (.iad 1 (.c
  (e42 0)) (.c (e42 13))) [] H fun t69_46 H => run S (.ld (.c t69_46)) [] H fun t70_47 H => run S (.slc 3 1 (.c (e42 10)) (some (.c t70_47)) none) [] H fun t71_48 H =>
  Q37 .normal (upd (upd (upd (upd (upd (upd (upd (upd (upd (upd (upd (upd (upd e42 61 (e42 11)) 62 (e42 13)) 63 t63_43) 64 t64_44) 65 t65_45) 11 t65_45) 66 (e42 10)) 67
  (e42 0)) 68 (e42 13)) 69 t69_46) 70 t70_47) 71 t71_48) 10 t71_48) H) Q37) fun Q41 => cnd t60_40 (fun Q49 => Q49 .ret (upd (upd (upd (upd e39 59 (e39 13)) 60 t60_40) 6
  (.slice none 0 0)) 7 (.bool false)) H) (fun Q50 => Q50 .normal (upd (upd e39 59 (e39 13)) 60 t60_40) H) Q41) Q37) fun Q38 => jn (blk 4 Q38) fun Q51 => WL S b34_3 (upd
  (upd e33 13 (.int .i64 (-1))) 14 (.int .i64 0)) H Q51) Q) fun Q32 => cnd t37_31 (fun Q52 => Q52 .normal (upd (upd (upd e 35 (e 12)) 36 (e 2)) 37 t37_31) H) (fun Q53 =>
  Q53 (.exit 2) (upd (upd (upd e 35 (e 12)) 36 (e 2)) 37 t37_31) H) Q32
theorem h34_1 (S : Sys) (e : Fe) (H : Heap) (Q : Kx) : wpC S b34_1 e H Q = s34_1 S e H Q := by kernel_rfl
theorem l34_1 (S : Sys) {Q : Kx} (I : Nat → Fe → Heap → Prop) (d : Nat) {e0 : Fe} {H : Heap} (h0 : I d e0 H) (hr : ∀ (d : Nat) (e : Fe) (H : Heap), I d e H → s34_1 S e H
  (sq (fun e' H' => ∃ d', d' < d ∧ I d' e' H') Q)) : WL S b34_1 e0 H Q := WL_inv I d h0 fun d e H hi => (h34_1 S e H _).mpr (hr d e H hi)
theorem u34_1 (S : Sys) {Q : Kx} {e : Fe} {H : Heap} (h : s34_1 S e H (sq (fun e' H' => WL S b34_1 e' H' Q) Q)) : WL S b34_1 e H Q := WL_once ((h34_1 S e H _).mpr h)
def b34_0 : KCode := (.seq (.seq (.reg [(.op (some 72) none (.mv (.t 15))), (.op (some 73) none (.mv (.t 10))), (.op (some 74) none (.lenL (.t 73))), (.op (some 75) none
  (.bin .lss (.t 72) (.t 74)))]) (.cond (.t 75) .skip (.exit 6))) (.seq (.block 7 (.seq (.reg [(.op (some 78) none (.mv (.t 10))), (.op (some 79) none (.mv (.t 15))),
  (.op (some 80) none (.iad 1 (.t 78) (.t 79))), (.op (some 81) none (.ld (.t 80))), (.op (some 82) none (.bin .neq (.t 81) (.c (.int .i64 0)))), (.op (some 83) none
  (.mv (.t 82))), (.op (some 84) (some (83, false)) (.mv (.t 15))), (.op (some 85) (some (83, false)) (.bin .geq (.t 84) (.c (.int .i64 7)))), (.op (some 86) none (.pick
  (.t 83) (.c (.bool true)) (.t 85)))]) (.cond (.t 86) (.seq (.reg [(.op (some 6) none (.mv (.c (.slice none 0 0)))), (.op (some 7) none (.mv (.c (.bool false))))])
  .ret) .skip))) (.reg [(.op (some 76) none (.mv (.t 15))), (.op (some 77) none (.bin .add (.t 76) (.c (.int .i64 1)))), (.op (some 15) none (.mv (.t 77)))])))
def s34_0 (S : Sys) (e : Fe) (H : Heap) (Q : Kx) : Prop := run S (.lenL (.c (e 10))) [] H fun t74_13 H => run S (.bin .lss (.c (e 15)) (.c t74_13)) [] H fun t75_14 H =>
  jn (sq (fun e16 H => jn (sq (fun e18 H => run S (.bin .add (.c (e18 15)) (.c (.int .i64 1))) [] H fun t77_19 H => Q .normal (upd (upd (upd e18 76 (e18 15)) 77 t77_19)
  15 t77_19) H) Q) fun Q17 => run S (.iad 1 (.c (e16 10)) (.c (e16 15))) [] H fun t80_20 H => run S (.ld (.c t80_20)) [] H fun t81_21 H => run S (.bin .neq (.c t81_21)
  (.c (.int .i64 0))) [] H fun t82_22 H => gd t82_22 false (run S (.mv (.c (e16 15))) [] H) H fun t84_23 H => gd t82_22 false (run S (.bin .geq (.c t84_23) (.c (.int
  .i64 7))) [] H) H fun t85_24 H => run S (.pick (.c t82_22) (.c (.bool true)) (.c t85_24)) [] H fun t86_25 H => jn (blk 7 Q17) fun Q26 => cnd t86_25 (fun Q27 => Q27
  .ret (upd (upd (upd (upd (upd (upd (upd (upd (upd (upd (upd e16 78 (e16 10)) 79 (e16 15)) 80 t80_20) 81 t81_21) 82 t82_22) 83 t82_22) 84 t84_23) 85 t85_24) 86 t86_25)
  6 (.slice none 0 0)) 7 (.bool false)) H) (fun Q28 => Q28 .normal (upd (upd (upd (upd (upd (upd (upd (upd (upd e16 78 (e16 10)) 79 (e16 15)) 80 t80_20) 81 t81_21) 82
  t82_22) 83 t82_22) 84 t84_23) 85 t85_24) 86 t86_25) H) Q26) Q) fun Q15 => cnd t75_14 (fun Q29 => Q29 .normal (upd (upd (upd (upd e 72 (e 15)) 73 (e 10)) 74 t74_13) 75
  t75_14) H) (fun Q30 => Q30 (.exit 6) (upd (upd (upd (upd e 72 (e 15)) 73 (e 10)) 74 t74_13) 75 t75_14) H) Q15
theorem h34_0 (S : Sys) (e : Fe) (H : Heap) (Q : Kx) : wpC S b34_0 e H Q = s34_0 S e H Q := by kernel_rfl
theorem l34_0 (S : Sys) {Q : Kx} (I : Nat → Fe → Heap → Prop) (d : Nat) {e0 : Fe} {H : Heap} (h0 : I d e0 H) (hr : ∀ (d : Nat) (e : Fe) (H : Heap), I d e H → s34_0 S e H
  (sq (fun e' H' => ∃ d', d' < d ∧ I d' e' H') Q)) : WL S b34_0 e0 H Q := WL_inv I d h0 fun d e H hi => (h34_0 S e H _).mpr (hr d e H hi)
theorem u34_0 (S : Sys) {Q : Kx} {e : Fe} {H : Heap} (h : s34_0 S e H (sq (fun e' H' => WL S b34_0 e' H' Q) Q)) : WL S b34_0 e H Q := WL_once ((h34_0 S e H _).mpr h)
def s34 (S : Sys) (a0 a1 a2 : Value) (H : Heap) (R : Kv) : Prop := run S (.alloc 128 [(.slice none 0 0), (.slice none 0 0), (.slice none 0 0), (.slice none 0 0), (.slice
  none 0 0), (.slice none 0 0), (.slice none 0 0), (.slice none 0 0), (.slice none 0 0), (.slice none 0 0), (.slice none 0 0), (.slice none 0 0), (.slice none 0 0),
  (.slice none 0 0), (.slice none 0 0), (.slice none 0 0), (.slice none 0 0), (.slice none 0 0), (.slice none 0 0), (.slice none 0 0), (.slice none 0 0), (.slice none 0
  0), (.slice none 0 0), (.slice none 0 0), (.slice none 0 0), (.slice none 0 0), (.slice none 0 0), (.slice none 0 0), (.slice none 0 0), (.slice none 0 0), (.slice
  none 0 0), (.slice none 0 0), (.slice none 0 0), (.slice none 0 0), (.slice none 0 0), (.slice none 0 0), (.slice none 0 0), (.slice none 0 0), (.slice none 0 0),
  (.slice none 0 0), (.slice none 0 0), (.slice none 0 0), (.slice none 0 0), (.slice none 0 0), (.slice none 0 0), (.slice none 0 0), (.slice none 0 0), (.slice none 0
  0), (.slice none 0 0), (.slice none 0 0), (.slice none 0 0), (.slice none 0 0), (.slice none 0 0), (.slice none 0 0), (.slice none 0 0), (.slice none 0 0), (.slice
  none 0 0), (.slice none 0 0), (.slice none 0 0), (.slice none 0 0), (.slice none 0 0), (.slice none 0 0), (.slice none 0 0), (.slice none 0 0), (.slice none 0 0),
  (.slice none 0 0), (.slice none 0 0), (.slice none 0 0), (.slice none 0 0), (.slice none 0 0), (.slice none 0 0), (.slice none 0 0), (.slice none 0 0), (.slice none 0
  0), (.slice none 0 0), (.slice none 0 0), (.slice none 0 0), (.slice none 0 0), (.slice none 0 0), (.slice none 0 0), (.slice none 0 0), (.slice none 0 0), (.slice
  none 0 0), (.slice none 0 0), (.slice none 0 0), (.slice none 0 0), (.slice none 0 0), (.slice none 0 0), (.slice none 0 0), (.slice none 0 0), (.slice none 0 0),
  (.slice none 0 0), (.slice none 0 0), (.slice none 0 0), (.slice none 0 0), (.slice none 0 0), (.slice none 0 0), (.slice none 0 0), (.slice none 0 0), (.slice none 0
  0), (.slice none 0 0), (.slice none 0 0), (.slice none 0 0), (.slice none 0 0), (.slice none 0 0), (.slice none 0 0), (.slice none 0 0), (.slice none 0 0), (.slice
  none 0 0), (.slice none 0 0), (.slice none 0 0), (.slice none 0 0), (.slice none 0 0), (.slice none 0 0), (.slice none 0 0), (.slice none 0 0), (.slice none 0 0),
  (.slice none 0 0), (.slice none 0 0), (.slice none 0 0), (.slice none 0 0), (.slice none 0 0), (.slice none 0 0), (.slice none 0 0), (.slice none 0 0), (.slice none 0
  0), (.slice none 0 0), (.slice none 0 0), (.slice none 0 0), (.slice none 0 0), (.slice none 0 0), (.slice none 0 0), (.slice none 0 0), (.slice none 0 0), (.slice
  none 0 0), (.slice none 0 0), (.slice none 0 0), (.slice none 0 0), (.slice none 0 0), (.slice none 0 0), (.slice none 0 0), (.slice none 0 0), (.slice none 0 0),
  (.slice none 0 0), (.slice none 0 0), (.slice none 0 0), (.slice none 0 0), (.slice none 0 0), (.slice none 0 0), (.slice none 0 0), (.slice none 0 0), (.slice none 0
  0), (.slice none 0 0), (.slice none 0 0), (.slice none 0 0), (.slice none 0 0), (.slice none 0 0), (.slice none 0 0), (.slice none 0 0), (.slice none 0 0), (.slice
  none 0 0), (.slice none 0 0), (.slice none 0 0), (.slice none 0 0), (.slice none 0 0), (.slice none 0 0), (.slice none 0 0), (.slice none 0 0), (.slice none 0 0),
  (.slice none 0 0), (.slice none 0 0), (.slice none 0 0), (.slice none 0 0), (.slice none 0 0), (.slice none 0 0), (.slice none 0 0), (.slice none 0 0), (.slice none 0
  0), (.slice none 0 0), (.slice none 0 0), (.slice none 0 0), (.slice none 0 0), (.slice none 0 0), (.slice none 0 0), (.slice none 0 0), (.slice none 0 0), (.slice
  none 0 0), (.slice none 0 0), (.slice none 0 0), (.slice none 0 0), (.slice none 0 0), (.slice none 0 0), (.slice none 0 0), (.slice none 0 0), (.slice none 0 0),
  (.slice none 0 0), (.slice none 0 0), (.slice none 0 0), (.slice none 0 0), (.slice none 0 0), (.slice none 0 0), (.slice none 0 0), (.slice none 0 0), (.slice none 0
  0), (.slice none 0 0), (.slice none 0 0), (.slice none 0 0), (.slice none 0 0), (.slice none 0 0), (.slice none 0 0), (.slice none 0 0), (.slice none 0 0), (.slice
  none 0 0), (.slice none 0 0), (.slice none 0 0), (.slice none 0 0), (.slice none 0 0), (.slice none 0 0), (.slice none 0 0), (.slice none 0 0), (.slice none 0 0),
  (.slice none 0 0), (.slice none 0 0), (.slice none 0 0), (.slice none 0 0), (.slice none 0 0), (.slice none 0 0), (.slice none 0 0), (.slice none 0 0), (.slice none 0
  0), (.slice none 0 0), (.slice none 0 0), (.slice none 0 0), (.slice none 0 0), (.slice none 0 0), (.slice none 0 0), (.slice none 0 0), (.slice none 0 0), (.slice
  none 0 0), (.slice none 0 0), (.slice none 0 0), (.slice none 0 0), (.slice none 0 0), (.slice none 0 0), (.slice none 0 0), (.slice none 0 0), (.slice none 0 0),
  (.slice none 0 0), (.slice none 0 0), (.slice none 0 0), (.slice none 0 0), (.slice none 0 0), (.slice none 0 0), (.slice none 0 0), (.slice none 0 0), (.slice none 0
  0)]) [] H fun t8_1 H => jn (sq (fun e3 H => run S (.s2b 5 (.c (e3 1))) [] H fun t33_4 H => run S (.call 102 [(.c t33_4)]) [] H fun t34_5 H => jn (sq (fun e7 H => jn
  (sq (fun e9 H => R (tup [(e9 11), (.bool true)]) H) (fn [(.t 6), (.t 7)] R)) fun Q8 => jn (blk 6 Q8) fun Q10 => WL S b34_0 (upd e7 15 (.int .i64 0)) H Q10) (fn [(.t
  6), (.t 7)] R)) fun Q6 => jn (blk 2 Q6) fun Q11 => WL S b34_1 (upd (upd (upd (upd (upd (upd e3 32 (e3 1)) 33 t33_4) 34 t34_5) 10 t34_5) 11 (.slice none 0 0)) 12 (.int
  .i64 0)) H Q11) (fn [(.t 6), (.t 7)] R)) fun Q2 => jn (blk 0 Q2) fun Q12 => WL S b34_2 (upd (upd (upd (upd (Env.get [a0, a1, a2]) 6 (.slice none 0 0)) 7 (.bool false))
  8 t8_1) 9 (.int .i64 0)) H Q12
theorem h34 (S : Sys) (a0 a1 a2 : Value) (H : Heap) (R : Kv) : wpC S k34.body (Env.get [a0, a1, a2]) H (fn [(.t 6), (.t 7)] R) = s34 S a0 a1 a2 H R := by kernel_rfl
theorem w34 {S : Sys} (hR : S.R 34 = none) (hF : S.F 34 = some k34) (a0 a1 a2 : Value) {H : Heap} {R : Kv} (h : s34 S a0 a1 a2 H R) : Wf S 34 [a0, a1, a2] H R := Wf_sh
  hR hF ((h34 S a0 a1 a2 H R).mpr h)
def b35_0 : KCode := (.seq (.reg [(.op (some 21) none (.bin .lss (.t 20) (.t 19)))]) (.seq (.cond (.t 21) .skip (.exit 0)) (.seq (.block 1 (.seq (.reg [(.op (some 22)
  none (.iad 1 (.t 18) (.t 20))), (.op (some 23) none (.ld (.t 22))), (.op (some 10) none (.mv (.t 23)))]) (.seq (.seq (.reg [(.op (some 24) none (.mv (.t 10))), (.op
  (some 25) none (.cvt .i64 (.t 24))), (.op (some 26) none (.mv (.t 0))), (.op (some 27) none (.lenL (.t 26))), (.op (some 28) none (.bin .geq (.t 25) (.t 27))), (.op
  (some 29) none (.mv (.t 28))), (.op (some 30) (some (29, false)) (.mv (.t 0))), (.op (some 31) (some (29, false)) (.mv (.t 10))), (.op (some 32) (some (29, false))
  (.iad 1 (.t 30) (.t 31))), (.op (some 33) (some (29, false)) (.ld (.t 32))), (.op (some 34) (some (29, false)) (.bin .eql (.t 33) (.c (.int .i64 0)))), (.op (some 35)
  none (.pick (.t 29) (.c (.bool true)) (.t 34)))]) (.cond (.t 35) (.seq (.reg [(.op (some 4) none (.mv (.c (.string (bs []))))), (.op (some 5) none (.mv (.c (.bool
  false))))]) .ret) .skip)) (.reg [(.op (some 36) none (.mv (.t 6))), (.op (some 37) none (.mv (.t 10))), (.op (some 38) none (.iad 1 (.t 36) (.t 37))), (.op (some 39)
  none (.ld (.t 38))), (.op (some 40) none (.mv (.t 0))), (.op (some 41) none (.mv (.t 10))), (.op (some 42) none (.iad 1 (.t 40) (.t 41))), (.op (some 43) none (.ld (.t
  42))), (.op (some 45) none (.mv (.t 0))), (.op (some 46) none (.mv (.t 10))), (.op (some 47) none (.iad 1 (.t 45) (.t 46))), (.op (some 48) none (.ld (.t 47))), (.op
  (some 44) none (.call 105 [(.t 39), (.t 43)])), (.chk 48 none (.ld (.t 47))), (.op (some 49) none (.call 104 [(.t 8), (.t 44), (.t 48)]))])))) (.reg [(.op (some 50)
  none (.bin .add (.t 20) (.c (.int .i64 1)))), (.op (some 20) none (.mv (.t 50)))]))))
def s35_0 (S : Sys) (e : Fe) (H : Heap) (Q : Kx) : Prop := run S (.bin .lss (.c (e 20)) (.c (e 19))) [] H fun t21_16 H => jn (sq (fun e18 H => jn (sq (fun e20 H => run S
  (.bin .add (.c (e20 20)) (.c (.int .i64 1))) [] H fun t50_21 H => Q .normal (upd (upd e20 50 t50_21) 20 t50_21) H) Q) fun Q19 => run S (.iad 1 (.c (e18 18)) (.c (e18
  20))) [] H fun t22_22 H => run S (.ld (.c t22_22)) [] H fun t23_23 H => run S (.cvt .i64 (.c t23_23)) [] H fun t25_24 H => run S (.lenL (.c (e18 0))) [] H fun t27_25 H
  => run S (.bin .geq (.c t25_24) (.c t27_25)) [] H fun t28_26 H => gd t28_26 false (run S (.mv (.c (e18 0))) [] H) H fun t30_27 H => gd t28_26 false (run S (.mv (.c
  t23_23)) [] H) H fun t31_28 H => gd t28_26 false (run S (.iad 1 (.c t30_27) (.c t31_28)) [] H) H fun t32_29 H => gd t28_26 false (run S (.ld (.c t32_29)) [] H) H fun
  t33_30 H => gd t28_26 false (run S (.bin .eql (.c t33_30) (.c (.int .i64 0))) [] H) H fun t34_31 H => run S (.pick (.c t28_26) (.c (.bool true)) (.c t34_31)) [] H fun
  t35_32 H => jn (blk 1 Q19) fun Q33 => jn (sq (fun e35 H => run S (.iad 1 (.c (e35 6)) (.c (e35 10))) [] H fun t38_36 H => run S (.ld (.c t38_36)) [] H fun t39_37 H =>
  run S (.iad 1 (.c (e35 0)) (.c (e35 10))) [] H fun t42_38 H => run S (.ld (.c t42_38)) [] H fun t43_39 H => run S (.iad 1 (.c (e35 0)) (.c (e35 10))) [] H fun t47_40 H
  => run S (.ld (.c t47_40)) [] H fun t48_41 H => run S (.call 105 [(.c t39_37), (.c t43_39)]) [] H fun t44_42 H => ck (kop (.ld (.c t47_40)) [] H) t48_41 (run S (.call
  104 [(.c (e35 8)), (.c t44_42), (.c t48_41)]) [] H fun t49_43 H => Q33 .normal (upd (upd (upd (upd (upd (upd (upd (upd (upd (upd (upd (upd (upd (upd e35 36 (e35 6)) 37
  (e35 10)) 38 t38_36) 39 t39_37) 40 (e35 0)) 41 (e35 10)) 42 t42_38) 43 t43_39) 45 (e35 0)) 46 (e35 10)) 47 t47_40) 48 t48_41) 44 t44_42) 49 t49_43) H)) Q33) fun Q34 =>
  cnd t35_32 (fun Q44 => Q44 .ret (upd (upd (upd (upd (upd (upd (upd (upd (upd (upd (upd (upd (upd (upd (upd (upd (upd e18 22 t22_22) 23 t23_23) 10 t23_23) 24 t23_23) 25
  t25_24) 26 (e18 0)) 27 t27_25) 28 t28_26) 29 t28_26) 30 t30_27) 31 t31_28) 32 t32_29) 33 t33_30) 34 t34_31) 35 t35_32) 4 (.string (bs []))) 5 (.bool false)) H) (fun
  Q45 => Q45 .normal (upd (upd (upd (upd (upd (upd (upd (upd (upd (upd (upd (upd (upd (upd (upd e18 22 t22_22) 23 t23_23) 10 t23_23) 24 t23_23) 25 t25_24) 26 (e18 0)) 27
  t27_25) 28 t28_26) 29 t28_26) 30 t30_27) 31 t31_28) 32 t32_29) 33 t33_30) 34 t34_31) 35 t35_32) H) Q34) Q) fun Q17 => cnd t21_16 (fun Q46 => Q46 .normal (upd e 21
  t21_16) H) (fun Q47 => Q47 (.exit 0) (upd e 21 t21_16) H) Q17
theorem h35_0 (S : Sys) (e : Fe) (H : Heap) (Q : Kx) : wpC S b35_0 e H Q = s35_0 S e H Q := by kernel_rfl
theorem l35_0 (S : Sys) {Q : Kx} (I : Nat → Fe → Heap → Prop) (d : Nat) {e0 : Fe} {H : Heap} (h0 : I d e0 H) (hr : ∀ (d : Nat) (e : Fe) (H : Heap), I d e H → s35_0 S e H
  (sq (fun e' H' => ∃ d', d' < d ∧ I d' e' H') Q)) : WL S b35_0 e0 H Q := WL_inv I d h0 fun d e H hi => (h35_0 S e H _).mpr (hr d e H hi)
theorem u35_0 (S : Sys) {Q : Kx} {e : Fe} {H : Heap} (h : s35_0 S e H (sq (fun e' H' => WL S b35_0 e' H' Q) Q)) : WL S b35_0 e H Q := WL_once ((h35_0 S e H _).mpr h)
def s35 (S : Sys) (a0 a1 : Value) (H : Heap) (R : Kv) : Prop := run S (.call 67 [(.c a0)]) [] H fun t13_1 H => run S (.xt (.c t13_1) 0) [] H fun t14_2 H => run S (.xt
  (.c t13_1) 1) [] H fun t15_3 H => run S (.un .not (.c t15_3)) [] H fun t17_4 H => jn (sq (fun e6 H => run S (.alloc 130 [(.slice none 0 0), (.int .i64 0)]) [] H fun
  t8_7 H => run S (.lenL (.c (e6 1))) [] H fun t19_8 H => jn (sq (fun e10 H => run S (.call 106 [(.c (e10 8))]) [] H fun t51_11 H => run S (.b2s 5 (.c t51_11)) [] H fun
  t52_12 H => R (tup [t52_12, (.bool true)]) H) (fn [(.t 4), (.t 5)] R)) fun Q9 => jn (blk 0 Q9) fun Q13 => WL S b35_0 (upd (upd (upd (upd e6 8 t8_7) 18 (e6 1)) 19
  t19_8) 20 (.int .i64 0)) H Q13) (fn [(.t 4), (.t 5)] R)) fun Q5 => cnd t17_4 (fun Q14 => Q14 .ret (upd (upd (upd (upd (upd (upd (upd (upd (upd (upd (upd (upd (upd
  (Env.get [a0, a1]) 4 (.string (bs []))) 5 (.bool false)) 12 a0) 13 t13_1) 11 t13_1) 14 t14_2) 15 t15_3) 6 t14_2) 7 t15_3) 16 t15_3) 17 t17_4) 4 (.string (bs []))) 5
  (.bool false)) H) (fun Q15 => Q15 .normal (upd (upd (upd (upd (upd (upd (upd (upd (upd (upd (upd (Env.get [a0, a1]) 4 (.string (bs []))) 5 (.bool false)) 12 a0) 13
  t13_1) 11 t13_1) 14 t14_2) 15 t15_3) 6 t14_2) 7 t15_3) 16 t15_3) 17 t17_4) H) Q5
theorem h35 (S : Sys) (a0 a1 : Value) (H : Heap) (R : Kv) : wpC S k35.body (Env.get [a0, a1]) H (fn [(.t 4), (.t 5)] R) = s35 S a0 a1 H R := by kernel_rfl
theorem w35 {S : Sys} (hR : S.R 35 = none) (hF : S.F 35 = some k35) (a0 a1 : Value) {H : Heap} {R : Kv} (h : s35 S a0 a1 H R) : Wf S 35 [a0, a1] H R := Wf_sh hR hF ((h35
  S a0 a1 H R).mpr h)
def b36_0 : KCode := (.seq (.seq (.reg [(.op (some 18) none (.mv (.t 6))), (.op (some 19) none (.mv (.t 4))), (.op (some 20) none (.lenL (.t 19))), (.op (some 21) none
  (.bin .lss (.t 18) (.t 20)))]) (.cond (.t 21) .skip (.exit 0))) (.seq (.block 1 (.seq (.reg [(.op (some 24) none (.mv (.t 4))), (.op (some 25) none (.mv (.t 6))), (.op
  (some 26) none (.iad 1 (.t 24) (.t 25))), (.op (some 27) none (.ld (.t 26))), (.op (some 28) none (.cvt .u8 (.t 27))), (.op (some 7) none (.mv (.t 28)))]) (.seq (.seq
  (.reg [(.op (some 29) none (.mv (.t 6))), (.op (some 30) none (.bin .add (.t 29) (.c (.int .i64 1)))), (.op (some 31) none (.mv (.t 4))), (.op (some 32) none (.lenL
  (.t 31))), (.op (some 33) none (.bin .lss (.t 30) (.t 32)))]) (.cond (.t 33) (.reg [(.op (some 34) none (.mv (.t 7))), (.op (some 35) none (.mv (.t 4))), (.op (some
  36) none (.mv (.t 6))), (.op (some 37) none (.bin .add (.t 36) (.c (.int .i64 1)))), (.op (some 38) none (.iad 1 (.t 35) (.t 37))), (.op (some 39) none (.ld (.t 38))),
  (.op (some 40) none (.cvt .u8 (.t 39))), (.op (some 41) none (.bin .shl (.t 40) (.c (.int .u64 4)))), (.op (some 42) none (.bin .or (.t 34) (.t 41))), (.op (some 7)
  none (.mv (.t 42)))]) .skip)) (.reg [(.op (some 43) none (.mv (.t 5))), (.op (some 44) none (.mv (.t 7))), (.op (some 45) none (.bsl 5 1 [(.int .u8 0)] [(0, (1, (.t
  44)))])), (.op (some 46) none (.app 5 1 1 (.t 43) (.t 45))), (.op (some 5) none (.mv (.t 46)))])))) (.reg [(.op (some 22) none (.mv (.t 6))), (.op (some 23) none (.bin
  .add (.t 22) (.c (.int .i64 2)))), (.op (some 6) none (.mv (.t 23)))])))
def s36_0 (S : Sys) (e : Fe) (H : Heap) (Q : Kx) : Prop := run S (.lenL (.c (e 4))) [] H fun t20_16 H => run S (.bin .lss (.c (e 6)) (.c t20_16)) [] H fun t21_17 H => jn
  (sq (fun e19 H => jn (sq (fun e21 H => run S (.bin .add (.c (e21 6)) (.c (.int .i64 2))) [] H fun t23_22 H => Q .normal (upd (upd (upd e21 22 (e21 6)) 23 t23_22) 6
  t23_22) H) Q) fun Q20 => run S (.iad 1 (.c (e19 4)) (.c (e19 6))) [] H fun t26_23 H => run S (.ld (.c t26_23)) [] H fun t27_24 H => run S (.cvt .u8 (.c t27_24)) [] H
  fun t28_25 H => run S (.bin .add (.c (e19 6)) (.c (.int .i64 1))) [] H fun t30_26 H => run S (.lenL (.c (e19 4))) [] H fun t32_27 H => run S (.bin .lss (.c t30_26) (.c
  t32_27)) [] H fun t33_28 H => jn (blk 1 Q20) fun Q29 => jn (sq (fun e31 H => run S (.bsl 5 1 [(.int .u8 0)] [(0, (1, (.c (e31 7))))]) [] H fun t45_32 H => run S (.app
  5 1 1 (.c (e31 5)) (.c t45_32)) [] H fun t46_33 H => Q29 .normal (upd (upd (upd (upd (upd e31 43 (e31 5)) 44 (e31 7)) 45 t45_32) 46 t46_33) 5 t46_33) H) Q29) fun Q30
  => cnd t33_28 (fun Q34 => run S (.bin .add (.c (e19 6)) (.c (.int .i64 1))) [] H fun t37_36 H => run S (.iad 1 (.c (e19 4)) (.c t37_36)) [] H fun t38_37 H => run S
  (.ld (.c t38_37)) [] H fun t39_38 H => run S (.cvt .u8 (.c t39_38)) [] H fun t40_39 H => run S (.bin .shl (.c t40_39) (.c (.int .u64 4))) [] H fun t41_40 H => run S
  (.bin .or (.c t28_25) (.c t41_40)) [] H fun t42_41 H => Q34 .normal (upd (upd (upd (upd (upd (upd (upd (upd (upd (upd (upd (upd (upd (upd (upd (upd (upd (upd (upd (upd
  (upd e19 24 (e19 4)) 25 (e19 6)) 26 t26_23) 27 t27_24) 28 t28_25) 7 t28_25) 29 (e19 6)) 30 t30_26) 31 (e19 4)) 32 t32_27) 33 t33_28) 34 t28_25) 35 (e19 4)) 36 (e19 6))
  37 t37_36) 38 t38_37) 39 t39_38) 40 t40_39) 41 t41_40) 42 t42_41) 7 t42_41) H) (fun Q35 => Q35 .normal (upd (upd (upd (upd (upd (upd (upd (upd (upd (upd (upd e19 24
  (e19 4)) 25 (e19 6)) 26 t26_23) 27 t27_24) 28 t28_25) 7 t28_25) 29 (e19 6)) 30 t30_26) 31 (e19 4)) 32 t32_27) 33 t33_28) H) Q30) Q) fun Q18 => cnd t21_17 (fun Q42 =>
  Q42 .normal (upd (upd (upd (upd e 18 (e 6)) 19 (e 4)) 20 t20_16) 21 t21_17) H) (fun Q43 => Q43 (.exit 0) (upd (upd (upd (upd e 18 (e 6)) 19 (e 4)) 20 t20_16) 21
  t21_17) H) Q18
theorem h36_0 (S : Sys) (e : Fe) (H : Heap) (Q : Kx) : wpC S b36_0 e H Q = s36_0 S e H Q := by kernel_rfl
theorem l36_0 (S : Sys) {Q : Kx} (I : Nat → Fe → Heap → Prop) (d : Nat) {e0 : Fe} {H : Heap} (h0 : I d e0 H) (hr : ∀ (d : Nat) (e : Fe) (H : Heap), I d e H → s36_0 S e H
  (sq (fun e' H' => ∃ d', d' < d ∧ I d' e' H') Q)) : WL S b36_0 e0 H Q := WL_inv I d h0 fun d e H hi => (h36_0 S e H _).mpr (hr d e H hi)
theorem u36_0 (S : Sys) {Q : Kx} {e : Fe} {H : Heap} (h : s36_0 S e H (sq (fun e' H' => WL S b36_0 e' H' Q) Q)) : WL S b36_0 e H Q := WL_once ((h36_0 S e H _).mpr h)
def s36 (S : Sys) (a0 : Value) (H : Heap) (R : Kv) : Prop := run S (.call 68 [(.c a0)]) [] H fun t9_1 H => run S (.un .not (.c t9_1)) [] H fun t10_2 H => jn (sq (fun e4
  H => run S (.call 107 [(.c (e4 0))]) [] H fun t12_5 H => run S (.lenL (.c t12_5)) [] H fun t14_6 H => run S (.bin .sub (.c t14_6) (.c (.int .i64 1))) [] H fun t15_7 H
  => run S (.cvt .u8 (.c t15_7)) [] H fun t16_8 H => run S (.bsl 5 1 [(.int .u8 0)] [(0, (1, (.c t16_8)))]) [] H fun t17_9 H => jn (sq (fun e11 H => run S (.b2s 5 (.c
  (e11 5))) [] H fun t48_12 H => R (tup [t48_12, (.bool true)]) H) (fn [(.t 2), (.t 3)] R)) fun Q10 => jn (blk 0 Q10) fun Q13 => WL S b36_0 (upd (upd (upd (upd (upd (upd
  (upd (upd (upd (upd e4 11 (e4 0)) 12 t12_5) 4 t12_5) 13 t12_5) 14 t14_6) 15 t15_7) 16 t16_8) 17 t17_9) 5 t17_9) 6 (.int .i64 0)) H Q13) (fn [(.t 2), (.t 3)] R)) fun Q3
  => cnd t10_2 (fun Q14 => Q14 .ret (upd (upd (upd (upd (upd (upd (upd (Env.get [a0]) 2 (.string (bs []))) 3 (.bool false)) 8 a0) 9 t9_1) 10 t10_2) 2 (.string (bs [])))
  3 (.bool false)) H) (fun Q15 => Q15 .normal (upd (upd (upd (upd (upd (Env.get [a0]) 2 (.string (bs []))) 3 (.bool false)) 8 a0) 9 t9_1) 10 t10_2) H) Q3
theorem h36 (S : Sys) (a0 : Value) (H : Heap) (R : Kv) : wpC S k36.body (Env.get [a0]) H (fn [(.t 2), (.t 3)] R) = s36 S a0 H R := by kernel_rfl
theorem w36 {S : Sys} (hR : S.R 36 = none) (hF : S.F 36 = some k36) (a0 : Value) {H : Heap} {R : Kv} (h : s36 S a0 H R) : Wf S 36 [a0] H R := Wf_sh hR hF ((h36 S a0 H
  R).mpr h)
def b37_0 : KCode := (.seq (.seq (.reg [(.op (some 8) none (.mv (.t 7))), (.op (some 9) none (.mv (.t 1))), (.op (some 10) none (.lenL (.t 9))), (.op (some 11) none
  (.bin .lss (.t 8) (.t 10)))]) (.cond (.t 11) .skip (.exit 0))) (.seq (.block 1 (.seq (.seq (.reg [(.op (some 14) none (.mv (.t 1))), (.op (some 15) none (.mv (.t 7))),
  (.op (some 16) none (.iad 1 (.t 14) (.t 15))), (.op (some 17) none (.ld (.t 16))), (.op (some 18) none (.cvt .i64 (.t 17))), (.op (some 19) none (.mv (.t 0))), (.op
  (some 20) none (.lenL (.t 19))), (.op (some 21) none (.bin .geq (.t 18) (.t 20))), (.op (some 22) none (.mv (.t 21))), (.op (some 23) (some (22, false)) (.mv (.t 0))),
  (.op (some 24) (some (22, false)) (.mv (.t 1))), (.op (some 25) (some (22, false)) (.mv (.t 7))), (.op (some 26) (some (22, false)) (.iad 1 (.t 24) (.t 25))), (.op
  (some 27) (some (22, false)) (.ld (.t 26))), (.op (some 28) (some (22, false)) (.iad 1 (.t 23) (.t 27))), (.op (some 29) (some (22, false)) (.ld (.t 28))), (.op (some
  30) (some (22, false)) (.bin .eql (.t 29) (.c (.int .i64 0)))), (.op (some 31) none (.pick (.t 22) (.c (.bool true)) (.t 30)))]) (.cond (.t 31) (.seq (.reg [(.op (some
  4) none (.mv (.c (.string (bs []))))), (.op (some 5) none (.mv (.c (.bool false))))]) .ret) .skip)) (.reg [(.op (some 32) none (.mv (.t 6))), (.op (some 33) none (.mv
  (.t 0))), (.op (some 34) none (.mv (.t 1))), (.op (some 35) none (.mv (.t 7))), (.op (some 36) none (.iad 1 (.t 34) (.t 35))), (.op (some 37) none (.ld (.t 36))), (.op
  (some 38) none (.cvt .i64 (.t 37))), (.op (some 39) none (.call 101 [(.t 33), (.t 38)])), (.op (some 40) none (.app 3 1 8 (.t 32) (.t 39))), (.op (some 6) none (.mv
  (.t 40)))]))) (.reg [(.op (some 12) none (.mv (.t 7))), (.op (some 13) none (.bin .add (.t 12) (.c (.int .i64 1)))), (.op (some 7) none (.mv (.t 13)))])))
def s37_0 (S : Sys) (e : Fe) (H : Heap) (Q : Kx) : Prop := run S (.lenL (.c (e 1))) [] H fun t10_6 H => run S (.bin .lss (.c (e 7)) (.c t10_6)) [] H fun t11_7 H => jn
  (sq (fun e9 H => jn (sq (fun e11 H => run S (.bin .add (.c (e11 7)) (.c (.int .i64 1))) [] H fun t13_12 H => Q .normal (upd (upd (upd e11 12 (e11 7)) 13 t13_12) 7
  t13_12) H) Q) fun Q10 => run S (.iad 1 (.c (e9 1)) (.c (e9 7))) [] H fun t16_13 H => run S (.ld (.c t16_13)) [] H fun t17_14 H => run S (.cvt .i64 (.c t17_14)) [] H
  fun t18_15 H => run S (.lenL (.c (e9 0))) [] H fun t20_16 H => run S (.bin .geq (.c t18_15) (.c t20_16)) [] H fun t21_17 H => gd t21_17 false (run S (.mv (.c (e9 0)))
  [] H) H fun t23_18 H => gd t21_17 false (run S (.mv (.c (e9 1))) [] H) H fun t24_19 H => gd t21_17 false (run S (.mv (.c (e9 7))) [] H) H fun t25_20 H => gd t21_17
  false (run S (.iad 1 (.c t24_19) (.c t25_20)) [] H) H fun t26_21 H => gd t21_17 false (run S (.ld (.c t26_21)) [] H) H fun t27_22 H => gd t21_17 false (run S (.iad 1
  (.c t23_18) (.c t27_22)) [] H) H fun t28_23 H => gd t21_17 false (run S (.ld (.c t28_23)) [] H) H fun t29_24 H => gd t21_17 false (run S (.bin .eql (.c t29_24) (.c
  (.int .i64 0))) [] H) H fun t30_25 H => run S (.pick (.c t21_17) (.c (.bool true)) (.c t30_25)) [] H fun t31_26 H => jn (blk 1 Q10) fun Q27 => jn (sq (fun e29 H => run
  S (.iad 1 (.c (e29 1)) (.c (e29 7))) [] H fun t36_30 H => run S (.ld (.c t36_30)) [] H fun t37_31 H => run S (.cvt .i64 (.c t37_31)) [] H fun t38_32 H => run S (.call
  101 [(.c (e29 0)), (.c t38_32)]) [] H fun t39_33 H => run S (.app 3 1 8 (.c (e29 6)) (.c t39_33)) [] H fun t40_34 H => Q27 .normal (upd (upd (upd (upd (upd (upd (upd
  (upd (upd (upd e29 32 (e29 6)) 33 (e29 0)) 34 (e29 1)) 35 (e29 7)) 36 t36_30) 37 t37_31) 38 t38_32) 39 t39_33) 40 t40_34) 6 t40_34) H) Q27) fun Q28 => cnd t31_26 (fun
  Q35 => Q35 .ret (upd (upd (upd (upd (upd (upd (upd (upd (upd (upd (upd (upd (upd (upd (upd (upd (upd (upd (upd (upd e9 14 (e9 1)) 15 (e9 7)) 16 t16_13) 17 t17_14) 18
  t18_15) 19 (e9 0)) 20 t20_16) 21 t21_17) 22 t21_17) 23 t23_18) 24 t24_19) 25 t25_20) 26 t26_21) 27 t27_22) 28 t28_23) 29 t29_24) 30 t30_25) 31 t31_26) 4 (.string (bs
  []))) 5 (.bool false)) H) (fun Q36 => Q36 .normal (upd (upd (upd (upd (upd (upd (upd (upd (upd (upd (upd (upd (upd (upd (upd (upd (upd (upd e9 14 (e9 1)) 15 (e9 7)) 16
  t16_13) 17 t17_14) 18 t18_15) 19 (e9 0)) 20 t20_16) 21 t21_17) 22 t21_17) 23 t23_18) 24 t24_19) 25 t25_20) 26 t26_21) 27 t27_22) 28 t28_23) 29 t29_24) 30 t30_25) 31
  t31_26) H) Q28) Q) fun Q8 => cnd t11_7 (fun Q37 => Q37 .normal (upd (upd (upd (upd e 8 (e 7)) 9 (e 1)) 10 t10_6) 11 t11_7) H) (fun Q38 => Q38 (.exit 0) (upd (upd (upd
  (upd e 8 (e 7)) 9 (e 1)) 10 t10_6) 11 t11_7) H) Q8
theorem h37_0 (S : Sys) (e : Fe) (H : Heap) (Q : Kx) : wpC S b37_0 e H Q = s37_0 S e H Q := by kernel_rfl
theorem l37_0 (S : Sys) {Q : Kx} (I : Nat → Fe → Heap → Prop) (d : Nat) {e0 : Fe} {H : Heap} (h0 : I d e0 H) (hr : ∀ (d : Nat) (e : Fe) (H : Heap), I d e H → s37_0 S e H
  (sq (fun e' H' => ∃ d', d' < d ∧ I d' e' H') Q)) : WL S b37_0 e0 H Q := WL_inv I d h0 fun d e H hi => (h37_0 S e H _).mpr (hr d e H hi)
theorem u37_0 (S : Sys) {Q : Kx} {e : Fe} {H : Heap} (h : s37_0 S e H (sq (fun e' H' => WL S b37_0 e' H' Q) Q)) : WL S b37_0 e H Q := WL_once ((h37_0 S e H _).mpr h)
def s37 (S : Sys) (a0 a1 : Value) (H : Heap) (R : Kv) : Prop := jn (sq (fun e2 H => run S (.call 108 [(.c (e2 6))]) [] H fun t42_3 H => run S (.b2s 5 (.c t42_3)) [] H
  fun t43_4 H => R (tup [t43_4, (.bool true)]) H) (fn [(.t 4), (.t 5)] R)) fun Q1 => jn (blk 0 Q1) fun Q5 => WL S b37_0 (upd (upd (upd (upd (Env.get [a0, a1]) 4 (.string
  (bs []))) 5 (.bool false)) 6 (.slice none 0 0)) 7 (.int .i64 0)) H Q5
theorem h37 (S : Sys) (a0 a1 : Value) (H : Heap) (R : Kv) : wpC S k37.body (Env.get [a0, a1]) H (fn [(.t 4), (.t 5)] R) = s37 S a0 a1 H R := by kernel_rfl
theorem w37 {S : Sys} (hR : S.R 37 = none) (hF : S.F 37 = some k37) (a0 a1 : Value) {H : Heap} {R : Kv} (h : s37 S a0 a1 H R) : Wf S 37 [a0, a1] H R := Wf_sh hR hF ((h37
  S a0 a1 H R).mpr h)
def s38 (S : Sys) (a0 : Value) (H : Heap) (R : Kv) : Prop := run S (.build [(.string (bs [])), (.bool false)] [(0, (1, (.c a0)))]) [] H fun t4_1 H => run S (.box 137 (.c
  t4_1)) [] H fun t5_2 H => R t5_2 H
theorem h38 (S : Sys) (a0 : Value) (H : Heap) (R : Kv) : wpC S k38.body (Env.get [a0]) H (fn [(.t 2)] R) = s38 S a0 H R := by kernel_rfl
theorem w38 {S : Sys} (hR : S.R 38 = none) (hF : S.F 38 = some k38) (a0 : Value) {H : Heap} {R : Kv} (h : s38 S a0 H R) : Wf S 38 [a0] H R := Wf_sh hR hF ((h38 S a0 H
  R).mpr h)
def b39_0 : KCode := (.seq (.reg [(.op (some 27) none (.bin .lss (.t 26) (.t 25)))]) (.seq (.cond (.t 27) .skip (.exit 0)) (.seq (.block 1 (.seq (.reg [(.op (some 28)
  none (.iad 1 (.t 24) (.t 26))), (.op (some 29) none (.ld (.t 28))), (.op (some 8) none (.mv (.t 29)))]) (.reg [(.op (some 30) none (.mv (.t 6))), (.op (some 31) none
  (.mv (.t 8))), (.op (some 32) none (.bin .and (.t 31) (.c (.int .u8 15)))), (.op (some 33) none (.cvt .i64 (.t 32))), (.op (some 34) none (.mv (.t 8))), (.op (some 35)
  none (.bin .shr (.t 34) (.c (.int .u64 4)))), (.op (some 36) none (.cvt .i64 (.t 35))), (.op (some 37) none (.bsl 3 2 [(.int .i64 0), (.int .i64 0)] [(0, (1, (.t
  33))), (1, (1, (.t 36)))])), (.op (some 38) none (.app 3 1 8 (.t 30) (.t 37))), (.op (some 6) none (.mv (.t 38)))]))) (.reg [(.op (some 39) none (.bin .add (.t 26) (.c
  (.int .i64 1)))), (.op (some 26) none (.mv (.t 39)))]))))
def s39_0 (S : Sys) (e : Fe) (H : Heap) (Q : Kx) : Prop := run S (.bin .lss (.c (e 26)) (.c (e 25))) [] H fun t27_45 H => jn (sq (fun e47 H => jn (sq (fun e49 H => run S
  (.bin .add (.c (e49 26)) (.c (.int .i64 1))) [] H fun t39_50 H => Q .normal (upd (upd e49 39 t39_50) 26 t39_50) H) Q) fun Q48 => run S (.iad 1 (.c (e47 24)) (.c (e47
  26))) [] H fun t28_51 H => run S (.ld (.c t28_51)) [] H fun t29_52 H => run S (.bin .and (.c t29_52) (.c (.int .u8 15))) [] H fun t32_53 H => run S (.cvt .i64 (.c
  t32_53)) [] H fun t33_54 H => run S (.bin .shr (.c t29_52) (.c (.int .u64 4))) [] H fun t35_55 H => run S (.cvt .i64 (.c t35_55)) [] H fun t36_56 H => run S (.bsl 3 2
  [(.int .i64 0), (.int .i64 0)] [(0, (1, (.c t33_54))), (1, (1, (.c t36_56)))]) [] H fun t37_57 H => run S (.app 3 1 8 (.c (e47 6)) (.c t37_57)) [] H fun t38_58 H =>
  Q48 .normal (upd (upd (upd (upd (upd (upd (upd (upd (upd (upd (upd (upd (upd e47 28 t28_51) 29 t29_52) 8 t29_52) 30 (e47 6)) 31 t29_52) 32 t32_53) 33 t33_54) 34
  t29_52) 35 t35_55) 36 t36_56) 37 t37_57) 38 t38_58) 6 t38_58) H) Q) fun Q46 => cnd t27_45 (fun Q59 => Q59 .normal (upd e 27 t27_45) H) (fun Q60 => Q60 (.exit 0) (upd e
  27 t27_45) H) Q46
theorem h39_0 (S : Sys) (e : Fe) (H : Heap) (Q : Kx) : wpC S b39_0 e H Q = s39_0 S e H Q := by kernel_rfl
theorem l39_0 (S : Sys) {Q : Kx} (I : Nat → Fe → Heap → Prop) (d : Nat) {e0 : Fe} {H : Heap} (h0 : I d e0 H) (hr : ∀ (d : Nat) (e : Fe) (H : Heap), I d e H → s39_0 S e H
  (sq (fun e' H' => ∃ d', d' < d ∧ I d' e' H') Q)) : WL S b39_0 e0 H Q := WL_inv I d h0 fun d e H hi => (h39_0 S e H _).mpr (hr d e H hi)
theorem u39_0 (S : Sys) {Q : Kx} {e : Fe} {H : Heap} (h : s39_0 S e H (sq (fun e' H' => WL S b39_0 e' H' Q) Q)) : WL S b39_0 e H Q := WL_once ((h39_0 S e H _).mpr h)
def s39 (S : Sys) (a0 : Value) (H : Heap) (R : Kv) : Prop := run S (.call 109 [(.c a0), (.c (.int .i64 1))]) [] H fun t10_1 H => run S (.cvt .i64 (.c t10_1)) [] H fun
  t11_2 H => run S (.bin .add (.c t11_2) (.c (.int .i64 1))) [] H fun t12_3 H => run S (.bin .add (.c t12_3) (.c (.int .i64 1))) [] H fun t15_4 H => run S (.bin .quo (.c
  t15_4) (.c (.int .i64 2))) [] H fun t16_5 H => run S (.call 110 [(.c a0), (.c t16_5)]) [] H fun t17_6 H => run S (.call 111 [(.c a0)]) [] H fun t19_7 H => jn (sq (fun
  e9 H => run S (.bin .add (.c (e9 4)) (.c (.int .i64 1))) [] H fun t21_10 H => run S (.mks 3 [(.int .i64 0)] 8 (.c (.int .i64 0)) (.c t21_10)) [] H fun t22_11 H => run
  S (.s2b 5 (.c (e9 5))) [] H fun t24_12 H => run S (.lenL (.c t24_12)) [] H fun t25_13 H => jn (sq (fun e15 H => run S (.lenL (.c (e15 6))) [] H fun t41_16 H => run S
  (.bin .gtr (.c t41_16) (.c (e15 4))) [] H fun t43_17 H => gd t43_17 true (run S (.mv (.c (e15 6))) [] H) H fun t45_18 H => gd t43_17 true (run S (.mv (.c (e15 4))) []
  H) H fun t46_19 H => gd t43_17 true (run S (.iad 1 (.c t45_18) (.c t46_19)) [] H) H fun t47_20 H => gd t43_17 true (run S (.ld (.c t47_20)) [] H) H fun t48_21 H => gd
  t43_17 true (run S (.bin .neq (.c t48_21) (.c (.int .i64 0))) [] H) H fun t49_22 H => run S (.pick (.c t43_17) (.c t49_22) (.c (.bool false))) [] H fun t50_23 H => gd
  t50_23 false (run S (.mv (.c (e15 6))) [] H) H fun t52_24 H => gd t50_23 false (run S (.mv (.c (e15 4))) [] H) H fun t53_25 H => gd t50_23 false (run S (.bin .sub (.c
  t53_25) (.c (.int .i64 1))) [] H) H fun t54_26 H => gd t50_23 false (run S (.iad 1 (.c t52_24) (.c t54_26)) [] H) H fun t55_27 H => gd t50_23 false (run S (.ld (.c
  t55_27)) [] H) H fun t56_28 H => gd t50_23 false (run S (.bin .eql (.c t56_28) (.c (.int .i64 0))) [] H) H fun t57_29 H => run S (.pick (.c t50_23) (.c (.bool true))
  (.c t57_29)) [] H fun t58_30 H => gd t58_30 false (run S (.mv (.c (e15 6))) [] H) H fun t60_31 H => gd t58_30 false (run S (.mv (.c (e15 4))) [] H) H fun t61_32 H =>
  gd t58_30 false (run S (.slc 3 1 (.c t60_31) none (some (.c t61_32))) [] H) H fun t62_33 H => gd t58_30 false (run S (.call 68 [(.c t62_33)]) [] H) H fun t63_34 H =>
  gd t58_30 false (run S (.un .not (.c t63_34)) [] H) H fun t64_35 H => run S (.pick (.c t58_30) (.c (.bool true)) (.c t64_35)) [] H fun t65_36 H => jn (sq (fun e38 H =>
  run S (.slc 3 1 (.c (e38 6)) none (some (.c (e38 4)))) [] H fun t68_39 H => R (tup [t68_39, (.bool true)]) H) (fn [(.t 2), (.t 3)] R)) fun Q37 => cnd t65_36 (fun Q40
  => Q40 .ret (upd (upd (upd (upd (upd (upd (upd (upd (upd (upd (upd (upd (upd (upd (upd (upd (upd (upd (upd (upd (upd (upd (upd (upd (upd (upd (upd (upd e15 40 (e15 6))
  41 t41_16) 42 (e15 4)) 43 t43_17) 44 t43_17) 45 t45_18) 46 t46_19) 47 t47_20) 48 t48_21) 49 t49_22) 50 t50_23) 51 t50_23) 52 t52_24) 53 t53_25) 54 t54_26) 55 t55_27)
  56 t56_28) 57 t57_29) 58 t58_30) 59 t58_30) 60 t60_31) 61 t61_32) 62 t62_33) 63 t63_34) 64 t64_35) 65 t65_36) 2 (.slice none 0 0)) 3 (.bool false)) H) (fun Q41 => Q41
  .normal (upd (upd (upd (upd (upd (upd (upd (upd (upd (upd (upd (upd (upd (upd (upd (upd (upd (upd (upd (upd (upd (upd (upd (upd (upd (upd e15 40 (e15 6)) 41 t41_16) 42
  (e15 4)) 43 t43_17) 44 t43_17) 45 t45_18) 46 t46_19) 47 t47_20) 48 t48_21) 49 t49_22) 50 t50_23) 51 t50_23) 52 t52_24) 53 t53_25) 54 t54_26) 55 t55_27) 56 t56_28) 57
  t57_29) 58 t58_30) 59 t58_30) 60 t60_31) 61 t61_32) 62 t62_33) 63 t63_34) 64 t64_35) 65 t65_36) H) Q37) (fn [(.t 2), (.t 3)] R)) fun Q14 => jn (blk 0 Q14) fun Q42 =>
  WL S b39_0 (upd (upd (upd (upd (upd (upd (upd (upd e9 20 (e9 4)) 21 t21_10) 22 t22_11) 6 t22_11) 23 (e9 5)) 24 t24_12) 25 t25_13) 26 (.int .i64 0)) H Q42) (fn [(.t 2),
  (.t 3)] R)) fun Q8 => cnd t19_7 (fun Q43 => Q43 .ret (upd (upd (upd (upd (upd (upd (upd (upd (upd (upd (upd (upd (upd (upd (upd (upd (upd (Env.get [a0]) 2 (.slice none
  0 0)) 3 (.bool false)) 9 a0) 10 t10_1) 11 t11_2) 12 t12_3) 4 t12_3) 13 a0) 14 t12_3) 15 t15_4) 16 t16_5) 17 t17_6) 5 t17_6) 18 a0) 19 t19_7) 2 (.slice none 0 0)) 3
  (.bool false)) H) (fun Q44 => Q44 .normal (upd (upd (upd (upd (upd (upd (upd (upd (upd (upd (upd (upd (upd (upd (upd (Env.get [a0]) 2 (.slice none 0 0)) 3 (.bool
  false)) 9 a0) 10 t10_1) 11 t11_2) 12 t12_3) 4 t12_3) 13 a0) 14 t12_3) 15 t15_4) 16 t16_5) 17 t17_6) 5 t17_6) 18 a0) 19 t19_7) H) Q8
theorem h39 (S : Sys) (a0 : Value) (H : Heap) (R : Kv) : wpC S k39.body (Env.get [a0]) H (fn [(.t 2), (.t 3)] R) = s39 S a0 H R := by kernel_rfl
theorem w39 {S : Sys} (hR : S.R 39 = none) (hF : S.F 39 = some k39) (a0 : Value) {H : Heap} {R : Kv} (h : s39 S a0 H R) : Wf S 39 [a0] H R := Wf_sh hR hF ((h39 S a0 H
  R).mpr h)
def b40_0 : KCode := (.seq (.seq (.reg [(.op (some 14) none (.mv (.t 5))), (.op (some 15) none (.mv (.t 3))), (.op (some 16) none (.lenL (.t 15))), (.op (some 17) none
  (.bin .lss (.t 14) (.t 16)))]) (.cond (.t 17) .skip (.exit 0))) (.seq (.block 1 (.seq (.reg [(.op (some 20) none (.mv (.t 3))), (.op (some 21) none (.mv (.t 5))), (.op
  (some 22) none (.iad 1 (.t 20) (.t 21))), (.op (some 23) none (.ld (.t 22))), (.op (some 6) none (.mv (.t 23)))]) (.seq (.seq (.reg [(.op (some 24) none (.mv (.t 5))),
  (.op (some 25) none (.bin .add (.t 24) (.c (.int .i64 1)))), (.op (some 26) none (.mv (.t 3))), (.op (some 27) none (.lenL (.t 26))), (.op (some 28) none (.bin .lss
  (.t 25) (.t 27)))]) (.cond (.t 28) (.reg [(.op (some 29) none (.mv (.t 6))), (.op (some 30) none (.mv (.t 3))), (.op (some 31) none (.mv (.t 5))), (.op (some 32) none
  (.bin .add (.t 31) (.c (.int .i64 1)))), (.op (some 33) none (.iad 1 (.t 30) (.t 32))), (.op (some 34) none (.ld (.t 33))), (.op (some 35) none (.bin .mul (.c (.int
  .i64 16)) (.t 34))), (.op (some 36) none (.bin .add (.t 29) (.t 35))), (.op (some 6) none (.mv (.t 36)))]) .skip)) (.reg [(.op (some 37) none (.mv (.t 4))), (.op (some
  38) none (.mv (.t 6))), (.op (some 39) none (.cvt .u8 (.t 38))), (.op (some 40) none (.bsl 5 1 [(.int .u8 0)] [(0, (1, (.t 39)))])), (.op (some 41) none (.app 5 1 1
  (.t 37) (.t 40))), (.op (some 4) none (.mv (.t 41)))])))) (.reg [(.op (some 18) none (.mv (.t 5))), (.op (some 19) none (.bin .add (.t 18) (.c (.int .i64 2)))), (.op
  (some 5) none (.mv (.t 19)))])))
def s40_0 (S : Sys) (e : Fe) (H : Heap) (Q : Kx) : Prop := run S (.lenL (.c (e 3))) [] H fun t16_10 H => run S (.bin .lss (.c (e 5)) (.c t16_10)) [] H fun t17_11 H => jn
  (sq (fun e13 H => jn (sq (fun e15 H => run S (.bin .add (.c (e15 5)) (.c (.int .i64 2))) [] H fun t19_16 H => Q .normal (upd (upd (upd e15 18 (e15 5)) 19 t19_16) 5
  t19_16) H) Q) fun Q14 => run S (.iad 1 (.c (e13 3)) (.c (e13 5))) [] H fun t22_17 H => run S (.ld (.c t22_17)) [] H fun t23_18 H => run S (.bin .add (.c (e13 5)) (.c
  (.int .i64 1))) [] H fun t25_19 H => run S (.lenL (.c (e13 3))) [] H fun t27_20 H => run S (.bin .lss (.c t25_19) (.c t27_20)) [] H fun t28_21 H => jn (blk 1 Q14) fun
  Q22 => jn (sq (fun e24 H => run S (.cvt .u8 (.c (e24 6))) [] H fun t39_25 H => run S (.bsl 5 1 [(.int .u8 0)] [(0, (1, (.c t39_25)))]) [] H fun t40_26 H => run S (.app
  5 1 1 (.c (e24 4)) (.c t40_26)) [] H fun t41_27 H => Q22 .normal (upd (upd (upd (upd (upd (upd e24 37 (e24 4)) 38 (e24 6)) 39 t39_25) 40 t40_26) 41 t41_27) 4 t41_27)
  H) Q22) fun Q23 => cnd t28_21 (fun Q28 => run S (.bin .add (.c (e13 5)) (.c (.int .i64 1))) [] H fun t32_30 H => run S (.iad 1 (.c (e13 3)) (.c t32_30)) [] H fun
  t33_31 H => run S (.ld (.c t33_31)) [] H fun t34_32 H => run S (.bin .mul (.c (.int .i64 16)) (.c t34_32)) [] H fun t35_33 H => run S (.bin .add (.c t23_18) (.c
  t35_33)) [] H fun t36_34 H => Q28 .normal (upd (upd (upd (upd (upd (upd (upd (upd (upd (upd (upd (upd (upd (upd (upd (upd (upd (upd (upd e13 20 (e13 3)) 21 (e13 5)) 22
  t22_17) 23 t23_18) 6 t23_18) 24 (e13 5)) 25 t25_19) 26 (e13 3)) 27 t27_20) 28 t28_21) 29 t23_18) 30 (e13 3)) 31 (e13 5)) 32 t32_30) 33 t33_31) 34 t34_32) 35 t35_33) 36
  t36_34) 6 t36_34) H) (fun Q29 => Q29 .normal (upd (upd (upd (upd (upd (upd (upd (upd (upd (upd e13 20 (e13 3)) 21 (e13 5)) 22 t22_17) 23 t23_18) 6 t23_18) 24 (e13 5))
  25 t25_19) 26 (e13 3)) 27 t27_20) 28 t28_21) H) Q23) Q) fun Q12 => cnd t17_11 (fun Q35 => Q35 .normal (upd (upd (upd (upd e 14 (e 5)) 15 (e 3)) 16 t16_10) 17 t17_11)
  H) (fun Q36 => Q36 (.exit 0) (upd (upd (upd (upd e 14 (e 5)) 15 (e 3)) 16 t16_10) 17 t17_11) H) Q12
theorem h40_0 (S : Sys) (e : Fe) (H : Heap) (Q : Kx) : wpC S b40_0 e H Q = s40_0 S e H Q := by kernel_rfl
theorem l40_0 (S : Sys) {Q : Kx} (I : Nat → Fe → Heap → Prop) (d : Nat) {e0 : Fe} {H : Heap} (h0 : I d e0 H) (hr : ∀ (d : Nat) (e : Fe) (H : Heap), I d e H → s40_0 S e H
  (sq (fun e' H' => ∃ d', d' < d ∧ I d' e' H') Q)) : WL S b40_0 e0 H Q := WL_inv I d h0 fun d e H hi => (h40_0 S e H _).mpr (hr d e H hi)
theorem u40_0 (S : Sys) {Q : Kx} {e : Fe} {H : Heap} (h : s40_0 S e H (sq (fun e' H' => WL S b40_0 e' H' Q) Q)) : WL S b40_0 e H Q := WL_once ((h40_0 S e H _).mpr h)
def s40 (S : Sys) (a0 : Value) (H : Heap) (R : Kv) : Prop := run S (.call 42 [(.c a0)]) [] H fun t8_1 H => run S (.lenL (.c t8_1)) [] H fun t10_2 H => run S (.bin .sub
  (.c t10_2) (.c (.int .i64 1))) [] H fun t11_3 H => run S (.cvt .u8 (.c t11_3)) [] H fun t12_4 H => run S (.bsl 5 1 [(.int .u8 0)] [(0, (1, (.c t12_4)))]) [] H fun
  t13_5 H => jn (sq (fun e7 H => run S (.b2s 5 (.c (e7 4))) [] H fun t43_8 H => R t43_8 H) (fn [(.t 2)] R)) fun Q6 => jn (blk 0 Q6) fun Q9 => WL S b40_0 (upd (upd (upd
  (upd (upd (upd (upd (upd (upd (upd (upd (Env.get [a0]) 2 (.string (bs []))) 7 a0) 8 t8_1) 3 t8_1) 9 t8_1) 10 t10_2) 11 t11_3) 12 t12_4) 13 t13_5) 4 t13_5) 5 (.int .i64
  0)) H Q9
theorem h40 (S : Sys) (a0 : Value) (H : Heap) (R : Kv) : wpC S k40.body (Env.get [a0]) H (fn [(.t 2)] R) = s40 S a0 H R := by kernel_rfl
theorem w40 {S : Sys} (hR : S.R 40 = none) (hF : S.F 40 = some k40) (a0 : Value) {H : Heap} {R : Kv} (h : s40 S a0 H R) : Wf S 40 [a0] H R := Wf_sh hR hF ((h40 S a0 H
  R).mpr h)
def b41_0 : KCode := (.seq (.reg [(.op (some 14) none (.bin .lss (.t 13) (.t 12)))]) (.seq (.cond (.t 14) .skip (.exit 0)) (.seq (.block 1 (.seq (.reg [(.op (some 15)
  none (.mv (.t 13))), (.op (some 5) none (.mv (.t 15)))]) (.seq (.reg [(.op (some 16) none (.mv (.t 0))), (.op (some 17) none (.mv (.t 5))), (.op (some 18) none (.iad 1
  (.t 16) (.t 17))), (.op (some 19) none (.ld (.t 18))), (.op (some 20) none (.mv (.t 1))), (.op (some 21) none (.mv (.t 5))), (.op (some 22) none (.iad 1 (.t 20) (.t
  21))), (.op (some 23) none (.ld (.t 22))), (.op (some 24) none (.bin .neq (.t 19) (.t 23)))]) (.cond (.t 24) (.seq (.reg [(.op (some 4) none (.mv (.c (.bool
  false))))]) .ret) .skip)))) (.reg [(.op (some 25) none (.bin .add (.t 13) (.c (.int .i64 1)))), (.op (some 13) none (.mv (.t 25)))]))))
def s41_0 (S : Sys) (e : Fe) (H : Heap) (Q : Kx) : Prop := run S (.bin .lss (.c (e 13)) (.c (e 12))) [] H fun t14_12 H => jn (sq (fun e14 H => jn (sq (fun e16 H => run S
  (.bin .add (.c (e16 13)) (.c (.int .i64 1))) [] H fun t25_17 H => Q .normal (upd (upd e16 25 t25_17) 13 t25_17) H) Q) fun Q15 => run S (.iad 1 (.c (e14 0)) (.c (e14
  13))) [] H fun t18_18 H => run S (.ld (.c t18_18)) [] H fun t19_19 H => run S (.iad 1 (.c (e14 1)) (.c (e14 13))) [] H fun t22_20 H => run S (.ld (.c t22_20)) [] H fun
  t23_21 H => run S (.bin .neq (.c t19_19) (.c t23_21)) [] H fun t24_22 H => jn (blk 1 Q15) fun Q23 => cnd t24_22 (fun Q24 => Q24 .ret (upd (upd (upd (upd (upd (upd (upd
  (upd (upd (upd (upd (upd e14 15 (e14 13)) 5 (e14 13)) 16 (e14 0)) 17 (e14 13)) 18 t18_18) 19 t19_19) 20 (e14 1)) 21 (e14 13)) 22 t22_20) 23 t23_21) 24 t24_22) 4 (.bool
  false)) H) (fun Q25 => Q25 .normal (upd (upd (upd (upd (upd (upd (upd (upd (upd (upd (upd e14 15 (e14 13)) 5 (e14 13)) 16 (e14 0)) 17 (e14 13)) 18 t18_18) 19 t19_19)
  20 (e14 1)) 21 (e14 13)) 22 t22_20) 23 t23_21) 24 t24_22) H) Q23) Q) fun Q13 => cnd t14_12 (fun Q26 => Q26 .normal (upd e 14 t14_12) H) (fun Q27 => Q27 (.exit 0) (upd
  e 14 t14_12) H) Q13
theorem h41_0 (S : Sys) (e : Fe) (H : Heap) (Q : Kx) : wpC S b41_0 e H Q = s41_0 S e H Q := by kernel_rfl
theorem l41_0 (S : Sys) {Q : Kx} (I : Nat → Fe → Heap → Prop) (d : Nat) {e0 : Fe} {H : Heap} (h0 : I d e0 H) (hr : ∀ (d : Nat) (e : Fe) (H : Heap), I d e H → s41_0 S e H
  (sq (fun e' H' => ∃ d', d' < d ∧ I d' e' H') Q)) : WL S b41_0 e0 H Q := WL_inv I d h0 fun d e H hi => (h41_0 S e H _).mpr (hr d e H hi)
theorem u41_0 (S : Sys) {Q : Kx} {e : Fe} {H : Heap} (h : s41_0 S e H (sq (fun e' H' => WL S b41_0 e' H' Q) Q)) : WL S b41_0 e H Q := WL_once ((h41_0 S e H _).mpr h)
def s41 (S : Sys) (a0 a1 : Value) (H : Heap) (R : Kv) : Prop := run S (.lenL (.c a0)) [] H fun t7_1 H => run S (.lenL (.c a1)) [] H fun t9_2 H => run S (.bin .neq (.c
  t7_1) (.c t9_2)) [] H fun t10_3 H => jn (sq (fun e5 H => run S (.lenL (.c (e5 0))) [] H fun t12_6 H => jn (sq (fun e8 H => R (.bool true) H) (fn [(.t 4)] R)) fun Q7 =>
  jn (blk 0 Q7) fun Q9 => WL S b41_0 (upd (upd (upd e5 11 (e5 0)) 12 t12_6) 13 (.int .i64 0)) H Q9) (fn [(.t 4)] R)) fun Q4 => cnd t10_3 (fun Q10 => Q10 .ret (upd (upd
  (upd (upd (upd (upd (upd (Env.get [a0, a1]) 4 (.bool false)) 6 a0) 7 t7_1) 8 a1) 9 t9_2) 10 t10_3) 4 (.bool false)) H) (fun Q11 => Q11 .normal (upd (upd (upd (upd (upd
  (upd (Env.get [a0, a1]) 4 (.bool false)) 6 a0) 7 t7_1) 8 a1) 9 t9_2) 10 t10_3) H) Q4
theorem h41 (S : Sys) (a0 a1 : Value) (H : Heap) (R : Kv) : wpC S k41.body (Env.get [a0, a1]) H (fn [(.t 4)] R) = s41 S a0 a1 H R := by kernel_rfl
theorem w41 {S : Sys} (hR : S.R 41 = none) (hF : S.F 41 = some k41) (a0 a1 : Value) {H : Heap} {R : Kv} (h : s41 S a0 a1 H R) : Wf S 41 [a0, a1] H R := Wf_sh hR hF ((h41
  S a0 a1 H R).mpr h)
def b42_0 : KCode := (.seq (.seq (.reg [(.op (some 6) none (.mv (.t 3))), (.op (some 7) none (.bin .gtr (.t 6) (.c (.int .i64 0)))), (.op (some 8) none (.mv (.t 7))),
  (.op (some 9) (some (8, true)) (.mv (.t 0))), (.op (some 10) (some (8, true)) (.mv (.t 3))), (.op (some 11) (some (8, true)) (.bin .sub (.t 10) (.c (.int .i64 1)))),
  (.op (some 12) (some (8, true)) (.iad 1 (.t 9) (.t 11))), (.op (some 13) (some (8, true)) (.ld (.t 12))), (.op (some 14) (some (8, true)) (.bin .eql (.t 13) (.c (.int
  .i64 0)))), (.op (some 15) none (.pick (.t 8) (.t 14) (.c (.bool false))))]) (.cond (.t 15) .skip (.exit 0))) (.block 1 (.reg [(.op (some 16) none (.mv (.t 3))), (.op
  (some 17) none (.bin .sub (.t 16) (.c (.int .i64 1)))), (.op (some 3) none (.mv (.t 17)))])))
def s42_0 (S : Sys) (e : Fe) (H : Heap) (Q : Kx) : Prop := run S (.bin .gtr (.c (e 3)) (.c (.int .i64 0))) [] H fun t7_6 H => gd t7_6 true (run S (.mv (.c (e 0))) [] H)
  H fun t9_7 H => gd t7_6 true (run S (.mv (.c (e 3))) [] H) H fun t10_8 H => gd t7_6 true (run S (.bin .sub (.c t10_8) (.c (.int .i64 1))) [] H) H fun t11_9 H => gd
  t7_6 true (run S (.iad 1 (.c t9_7) (.c t11_9)) [] H) H fun t12_10 H => gd t7_6 true (run S (.ld (.c t12_10)) [] H) H fun t13_11 H => gd t7_6 true (run S (.bin .eql (.c
  t13_11) (.c (.int .i64 0))) [] H) H fun t14_12 H => run S (.pick (.c t7_6) (.c t14_12) (.c (.bool false))) [] H fun t15_13 H => jn (sq (fun e15 H => run S (.bin .sub
  (.c (e15 3)) (.c (.int .i64 1))) [] H fun t17_16 H => Q .normal (upd (upd (upd e15 16 (e15 3)) 17 t17_16) 3 t17_16) H) Q) fun Q14 => cnd t15_13 (fun Q17 => Q17 .normal
  (upd (upd (upd (upd (upd (upd (upd (upd (upd (upd e 6 (e 3)) 7 t7_6) 8 t7_6) 9 t9_7) 10 t10_8) 11 t11_9) 12 t12_10) 13 t13_11) 14 t14_12) 15 t15_13) H) (fun Q18 => Q18
  (.exit 0) (upd (upd (upd (upd (upd (upd (upd (upd (upd (upd e 6 (e 3)) 7 t7_6) 8 t7_6) 9 t9_7) 10 t10_8) 11 t11_9) 12 t12_10) 13 t13_11) 14 t14_12) 15 t15_13) H) Q14
theorem h42_0 (S : Sys) (e : Fe) (H : Heap) (Q : Kx) : wpC S b42_0 e H Q = s42_0 S e H Q := by kernel_rfl
theorem l42_0 (S : Sys) {Q : Kx} (I : Nat → Fe → Heap → Prop) (d : Nat) {e0 : Fe} {H : Heap} (h0 : I d e0 H) (hr : ∀ (d : Nat) (e : Fe) (H : Heap), I d e H → s42_0 S e H
  (sq (fun e' H' => ∃ d', d' < d ∧ I d' e' H') Q)) : WL S b42_0 e0 H Q := WL_inv I d h0 fun d e H hi => (h42_0 S e H _).mpr (hr d e H hi)
theorem u42_0 (S : Sys) {Q : Kx} {e : Fe} {H : Heap} (h : s42_0 S e H (sq (fun e' H' => WL S b42_0 e' H' Q) Q)) : WL S b42_0 e H Q := WL_once ((h42_0 S e H _).mpr h)
def s42 (S : Sys) (a0 : Value) (H : Heap) (R : Kv) : Prop := run S (.lenL (.c a0)) [] H fun t5_1 H => jn (sq (fun e3 H => run S (.slc 3 1 (.c (e3 0)) none (some (.c (e3
  3)))) [] H fun t20_4 H => R t20_4 H) (fn [(.t 2)] R)) fun Q2 => jn (blk 0 Q2) fun Q5 => WL S b42_0 (upd (upd (upd (upd (Env.get [a0]) 2 (.slice none 0 0)) 4 a0) 5
  t5_1) 3 t5_1) H Q5
theorem h42 (S : Sys) (a0 : Value) (H : Heap) (R : Kv) : wpC S k42.body (Env.get [a0]) H (fn [(.t 2)] R) = s42 S a0 H R := by kernel_rfl
theorem w42 {S : Sys} (hR : S.R 42 = none) (hF : S.F 42 = some k42) (a0 : Value) {H : Heap} {R : Kv} (h : s42 S a0 H R) : Wf S 42 [a0] H R := Wf_sh hR hF ((h42 S a0 H
  R).mpr h)
def s43 (S : Sys) (a0 : Value) (H : Heap) (R : Kv) : Prop := run S (.call 111 [(.c a0)]) [] H fun t4_1 H => jn (sq (fun e3 H => run S (.nck (.c (e3 0))) [] H fun t7_4 H
  => run S (.fad 0 (.c t7_4)) [] H fun t8_5 H => run S (.ld (.c t8_5)) [] H fun t9_6 H => run S (.lenS (.c t9_6)) [] H fun t10_7 H => run S (.call 110 [(.c (e3 0)), (.c
  t10_7)]) [] H fun t11_8 H => R t11_8 H) (fn [(.t 2)] R)) fun Q2 => cnd t4_1 (fun Q9 => Q9 .ret (upd (upd (upd (upd (Env.get [a0]) 2 (.string (bs []))) 3 a0) 4 t4_1) 2
  (.string (bs []))) H) (fun Q10 => Q10 .normal (upd (upd (upd (Env.get [a0]) 2 (.string (bs []))) 3 a0) 4 t4_1) H) Q2
theorem h43 (S : Sys) (a0 : Value) (H : Heap) (R : Kv) : wpC S k43.body (Env.get [a0]) H (fn [(.t 2)] R) = s43 S a0 H R := by kernel_rfl
theorem w43 {S : Sys} (hR : S.R 43 = none) (hF : S.F 43 = some k43) (a0 : Value) {H : Heap} {R : Kv} (h : s43 S a0 H R) : Wf S 43 [a0] H R := Wf_sh hR hF ((h43 S a0 H
  R).mpr h)
def b44_0 : KCode := (.seq (.seq (.reg [(.op (some 23) none (.mv (.t 7))), (.op (some 24) none (.mv (.t 4))), (.op (some 25) none (.bin .lss (.t 23) (.t 24)))]) (.cond
  (.t 25) .skip (.exit 0))) (.seq (.block 1 (.seq (.reg [(.op (some 28) none (.mv (.t 0))), (.op (some 29) none (.mv (.t 7))), (.op (some 30) none (.bin .quo (.t 29) (.c
  (.int .i64 2)))), (.op (some 31) none (.bin .add (.c (.int .i64 1)) (.t 30))), (.op (some 32) none (.idS (.t 28) (.t 31))), (.op (some 33) none (.cvt .i64 (.t 32))),
  (.op (some 8) none (.mv (.t 33)))]) (.seq (.seq (.reg [(.op (some 34) none (.mv (.t 7))), (.op (some 35) none (.bin .rem (.t 34) (.c (.int .i64 2)))), (.op (some 36)
  none (.bin .eql (.t 35) (.c (.int .i64 1))))]) (.cond (.t 36) (.reg [(.op (some 37) none (.mv (.t 8))), (.op (some 38) none (.bin .quo (.t 37) (.c (.int .i64 16)))),
  (.op (some 8) none (.mv (.t 38)))]) .skip)) (.reg [(.op (some 39) none (.mv (.t 6))), (.op (some 40) none (.mv (.t 8))), (.op (some 41) none (.bin .rem (.t 40) (.c
  (.int .i64 16)))), (.op (some 42) none (.bsl 3 1 [(.int .i64 0)] [(0, (1, (.t 41)))])), (.op (some 43) none (.app 3 1 8 (.t 39) (.t 42))), (.op (some 6) none (.mv (.t
  43)))])))) (.reg [(.op (some 26) none (.mv (.t 7))), (.op (some 27) none (.bin .add (.t 26) (.c (.int .i64 1)))), (.op (some 7) none (.mv (.t 27)))])))
def s44_0 (S : Sys) (e : Fe) (H : Heap) (Q : Kx) : Prop := run S (.bin .lss (.c (e 7)) (.c (e 4))) [] H fun t25_34 H => jn (sq (fun e36 H => jn (sq (fun e38 H => run S
  (.bin .add (.c (e38 7)) (.c (.int .i64 1))) [] H fun t27_39 H => Q .normal (upd (upd (upd e38 26 (e38 7)) 27 t27_39) 7 t27_39) H) Q) fun Q37 => run S (.bin .quo (.c
  (e36 7)) (.c (.int .i64 2))) [] H fun t30_40 H => run S (.bin .add (.c (.int .i64 1)) (.c t30_40)) [] H fun t31_41 H => run S (.idS (.c (e36 0)) (.c t31_41)) [] H fun
  t32_42 H => run S (.cvt .i64 (.c t32_42)) [] H fun t33_43 H => run S (.bin .rem (.c (e36 7)) (.c (.int .i64 2))) [] H fun t35_44 H => run S (.bin .eql (.c t35_44) (.c
  (.int .i64 1))) [] H fun t36_45 H => jn (blk 1 Q37) fun Q46 => jn (sq (fun e48 H => run S (.bin .rem (.c (e48 8)) (.c (.int .i64 16))) [] H fun t41_49 H => run S (.bsl
  3 1 [(.int .i64 0)] [(0, (1, (.c t41_49)))]) [] H fun t42_50 H => run S (.app 3 1 8 (.c (e48 6)) (.c t42_50)) [] H fun t43_51 H => Q46 .normal (upd (upd (upd (upd (upd
  (upd e48 39 (e48 6)) 40 (e48 8)) 41 t41_49) 42 t42_50) 43 t43_51) 6 t43_51) H) Q46) fun Q47 => cnd t36_45 (fun Q52 => run S (.bin .quo (.c t33_43) (.c (.int .i64 16)))
  [] H fun t38_54 H => Q52 .normal (upd (upd (upd (upd (upd (upd (upd (upd (upd (upd (upd (upd (upd e36 28 (e36 0)) 29 (e36 7)) 30 t30_40) 31 t31_41) 32 t32_42) 33
  t33_43) 8 t33_43) 34 (e36 7)) 35 t35_44) 36 t36_45) 37 t33_43) 38 t38_54) 8 t38_54) H) (fun Q53 => Q53 .normal (upd (upd (upd (upd (upd (upd (upd (upd (upd (upd e36 28
  (e36 0)) 29 (e36 7)) 30 t30_40) 31 t31_41) 32 t32_42) 33 t33_43) 8 t33_43) 34 (e36 7)) 35 t35_44) 36 t36_45) H) Q47) Q) fun Q35 => cnd t25_34 (fun Q55 => Q55 .normal
  (upd (upd (upd e 23 (e 7)) 24 (e 4)) 25 t25_34) H) (fun Q56 => Q56 (.exit 0) (upd (upd (upd e 23 (e 7)) 24 (e 4)) 25 t25_34) H) Q35
theorem h44_0 (S : Sys) (e : Fe) (H : Heap) (Q : Kx) : wpC S b44_0 e H Q = s44_0 S e H Q := by kernel_rfl
theorem l44_0 (S : Sys) {Q : Kx} (I : Nat → Fe → Heap → Prop) (d : Nat) {e0 : Fe} {H : Heap} (h0 : I d e0 H) (hr : ∀ (d : Nat) (e : Fe) (H : Heap), I d e H → s44_0 S e H
  (sq (fun e' H' => ∃ d', d' < d ∧ I d' e' H') Q)) : WL S b44_0 e0 H Q := WL_inv I d h0 fun d e H hi => (h44_0 S e H _).mpr (hr d e H hi)
theorem u44_0 (S : Sys) {Q : Kx} {e : Fe} {H : Heap} (h : s44_0 S e H (sq (fun e' H' => WL S b44_0 e' H' Q) Q)) : WL S b44_0 e H Q := WL_once ((h44_0 S e H _).mpr h)
def s44 (S : Sys) (a0 : Value) (H : Heap) (R : Kv) : Prop := run S (.bin .eql (.c a0) (.c (.string (bs [])))) [] H fun t10_1 H => jn (sq (fun e3 H => run S (.idS (.c (e3
  0)) (.c (.int .i64 0))) [] H fun t12_4 H => run S (.cvt .i64 (.c t12_4)) [] H fun t13_5 H => run S (.bin .add (.c t13_5) (.c (.int .i64 1))) [] H fun t14_6 H => run S
  (.bin .add (.c t14_6) (.c (.int .i64 1))) [] H fun t16_7 H => run S (.bin .quo (.c t16_7) (.c (.int .i64 2))) [] H fun t17_8 H => run S (.bin .add (.c (.int .i64 1))
  (.c t17_8)) [] H fun t18_9 H => run S (.lenS (.c (e3 0))) [] H fun t21_10 H => run S (.bin .gtr (.c t18_9) (.c t21_10)) [] H fun t22_11 H => jn (sq (fun e13 H => jn
  (sq (fun e15 H => run S (.call 32 [(.c (e15 6))]) [] H fun t45_16 H => run S (.un .not (.c t45_16)) [] H fun t46_17 H => gd t46_17 false (run S (.mv (.c (e15 6))) []
  H) H fun t48_18 H => gd t46_17 false (run S (.mv (.c (e15 0))) [] H) H fun t50_19 H => gd t46_17 false (run S (.mv (.c (e15 5))) [] H) H fun t51_20 H => gd t46_17
  false (run S (.slS (.c t50_19) none (some (.c t51_20))) [] H) H fun t52_21 H => gd t46_17 false (run S (.call 40 [(.c t48_18)]) [] H) H fun t49_22 H => gd t46_17 false
  (run S (.bin .neq (.c t49_22) (.c t52_21)) [] H) H fun t53_23 H => run S (.pick (.c t46_17) (.c (.bool true)) (.c t53_23)) [] H fun t54_24 H => jn (sq (fun e26 H => R
  (tup [(e26 6), (e26 5)]) H) (fn [(.t 2), (.t 3)] R)) fun Q25 => cnd t54_24 (fun Q27 => Q27 .ret (upd (upd (upd (upd (upd (upd (upd (upd (upd (upd (upd (upd (upd e15 44
  (e15 6)) 45 t45_16) 46 t46_17) 47 t46_17) 48 t48_18) 50 t50_19) 51 t51_20) 52 t52_21) 49 t49_22) 53 t53_23) 54 t54_24) 2 (.slice none 0 0)) 3 (.int .i64 0)) H) (fun
  Q28 => Q28 .normal (upd (upd (upd (upd (upd (upd (upd (upd (upd (upd (upd e15 44 (e15 6)) 45 t45_16) 46 t46_17) 47 t46_17) 48 t48_18) 50 t50_19) 51 t51_20) 52 t52_21)
  49 t49_22) 53 t53_23) 54 t54_24) H) Q25) (fn [(.t 2), (.t 3)] R)) fun Q14 => jn (blk 0 Q14) fun Q29 => WL S b44_0 (upd (upd e13 6 (.slice none 0 0)) 7 (.int .i64 0)) H
  Q29) (fn [(.t 2), (.t 3)] R)) fun Q12 => cnd t22_11 (fun Q30 => Q30 .ret (upd (upd (upd (upd (upd (upd (upd (upd (upd (upd (upd (upd (upd (upd (upd (upd e3 11 (e3 0))
  12 t12_4) 13 t13_5) 14 t14_6) 4 t14_6) 15 t14_6) 16 t16_7) 17 t17_8) 18 t18_9) 5 t18_9) 19 t18_9) 20 (e3 0)) 21 t21_10) 22 t22_11) 2 (.slice none 0 0)) 3 (.int .i64
  0)) H) (fun Q31 => Q31 .normal (upd (upd (upd (upd (upd (upd (upd (upd (upd (upd (upd (upd (upd (upd e3 11 (e3 0)) 12 t12_4) 13 t13_5) 14 t14_6) 4 t14_6) 15 t14_6) 16
  t16_7) 17 t17_8) 18 t18_9) 5 t18_9) 19 t18_9) 20 (e3 0)) 21 t21_10) 22 t22_11) H) Q12) (fn [(.t 2), (.t 3)] R)) fun Q2 => cnd t10_1 (fun Q32 => Q32 .ret (upd (upd (upd
  (upd (upd (upd (Env.get [a0]) 2 (.slice none 0 0)) 3 (.int .i64 0)) 9 a0) 10 t10_1) 2 (.slice none 0 0)) 3 (.int .i64 0)) H) (fun Q33 => Q33 .normal (upd (upd (upd
  (upd (Env.get [a0]) 2 (.slice none 0 0)) 3 (.int .i64 0)) 9 a0) 10 t10_1) H) Q2
theorem h44 (S : Sys) (a0 : Value) (H : Heap) (R : Kv) : wpC S k44.body (Env.get [a0]) H (fn [(.t 2), (.t 3)] R) = s44 S a0 H R := by kernel_rfl
theorem w44 {S : Sys} (hR : S.R 44 = none) (hF : S.F 44 = some k44) (a0 : Value) {H : Heap} {R : Kv} (h : s44 S a0 H R) : Wf S 44 [a0] H R := Wf_sh hR hF ((h44 S a0 H
  R).mpr h)
end Go.Proofs.Ytpcpelbbeofenaa.K
