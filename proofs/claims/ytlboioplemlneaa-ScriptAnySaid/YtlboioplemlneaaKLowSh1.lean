/- The functions as nested words with named values, each held against its code by the kernel. Printed by a program of this work (sh.py). -/
import Derived.Test.YtlboioplemlneaaKLowCode
set_option maxRecDepth 100000
set_option linter.unusedVariables false
namespace Go.Proofs.Ytlboioplemlneaa.K
open Go Go.Proofs
def b3_0 : KCode := (.seq (.reg [(.op (some 20) none (.bin .lss (.t 19) (.t 18)))]) (.seq (.cond (.t 20) .skip (.exit 0)) (.seq (.block 1 (.seq (.reg [(.op (some 21)
  none (.iad 5 (.t 17) (.t 19))), (.op (some 22) none (.ldn 5 (.t 21))), (.op (some 6) none (.alloc 25 [(.int .i64 0), (.int .i64 0), (.int .i64 0), (.bool false),
  (.string (bs []))])), (.op none none (.stn 5 (.t 6) (.t 22)))]) (.seq (.seq (.reg [(.op (some 23) none (.fad 4 (.t 6))), (.op (some 24) none (.ld (.t 23))), (.op (some
  25) none (.lenS (.t 24))), (.op (some 26) none (.bin .gtr (.t 25) (.c (.int .i64 700))))]) (.cond (.t 26) (.seq (.reg [(.op (some 2) none (.mv (.c (.bool true))))])
  .ret) .skip)) (.seq (.seq (.reg [(.op (some 27) none (.ldn 5 (.t 6))), (.op (some 29) none (.ldn 5 (.t 6))), (.op (some 28) none (.call 14 [(.t 27)])), (.chk 29 none
  (.ldn 5 (.t 6))), (.op (some 30) none (.call 15 [(.t 29)])), (.op (some 31) none (.eqv (.s .bool) true (.t 28) (.t 30)))]) (.cond (.t 31) (.seq (.reg [(.op (some 2)
  none (.mv (.c (.bool false))))]) .ret) .skip)) (.seq (.seq (.reg [(.op (some 32) none (.ldn 5 (.t 6))), (.op (some 33) none (.call 15 [(.t 32)])), (.op (some 34) none
  (.un .not (.t 33)))]) (.cond (.t 34) (.reg [(.op (some 4) none (.mv (.c (.bool false))))]) .skip)) (.seq (.reg [(.op (some 35) none (.mv (.t 4)))]) (.cond (.t 35)
  (.reg [(.op (some 36) none (.mv (.t 3))), (.op (some 37) none (.ldn 5 (.t 6))), (.op (some 38) none (.call 16 [(.t 37)])), (.op (some 39) none (.bin .add (.t 36) (.t
  38))), (.op (some 3) none (.mv (.t 39)))]) .skip))))))) (.reg [(.op (some 40) none (.bin .add (.t 19) (.c (.int .i64 1)))), (.op (some 19) none (.mv (.t 40)))]))))
def s3_0 (S : Sys) (e : Fe) (H : Heap) (Q : Kx) : Prop := run S (.bin .lss (.c (e 19)) (.c (e 18))) [] H fun t20_48 H => jn (sq (fun e50 H => jn (sq (fun e52 H => run S
  (.bin .add (.c (e52 19)) (.c (.int .i64 1))) [] H fun t40_53 H => Q .normal (upd (upd e52 40 t40_53) 19 t40_53) H) Q) fun Q51 => run S (.iad 5 (.c (e50 17)) (.c (e50
  19))) [] H fun t21_54 H => run S (.ldn 5 (.c t21_54)) [] H fun t22_55 H => run S (.alloc 25 [(.int .i64 0), (.int .i64 0), (.int .i64 0), (.bool false), (.string (bs
  []))]) [] H fun t6_56 H => run S (.stn 5 (.c t6_56) (.c t22_55)) [] H fun _ H => run S (.fad 4 (.c t6_56)) [] H fun t23_57 H => run S (.ld (.c t23_57)) [] H fun t24_58
  H => run S (.lenS (.c t24_58)) [] H fun t25_59 H => run S (.bin .gtr (.c t25_59) (.c (.int .i64 700))) [] H fun t26_60 H => jn (blk 1 Q51) fun Q61 => jn (sq (fun e63 H
  => run S (.ldn 5 (.c (e63 6))) [] H fun t27_64 H => run S (.ldn 5 (.c (e63 6))) [] H fun t29_65 H => run S (.call 14 [(.c t27_64)]) [] H fun t28_66 H => ck (kop (.ldn
  5 (.c (e63 6))) [] H) t29_65 (run S (.call 15 [(.c t29_65)]) [] H fun t30_67 H => run S (.eqv (.s .bool) true (.c t28_66) (.c t30_67)) [] H fun t31_68 H => jn (sq (fun
  e70 H => run S (.ldn 5 (.c (e70 6))) [] H fun t32_71 H => run S (.call 15 [(.c t32_71)]) [] H fun t33_72 H => run S (.un .not (.c t33_72)) [] H fun t34_73 H => jn (sq
  (fun e75 H => cnd (e75 4) (fun Q76 => run S (.ldn 5 (.c (e75 6))) [] H fun t37_78 H => run S (.call 16 [(.c t37_78)]) [] H fun t38_79 H => run S (.bin .add (.c (e75
  3)) (.c t38_79)) [] H fun t39_80 H => Q76 .normal (upd (upd (upd (upd (upd (upd e75 35 (e75 4)) 36 (e75 3)) 37 t37_78) 38 t38_79) 39 t39_80) 3 t39_80) H) (fun Q77 =>
  Q77 .normal (upd e75 35 (e75 4)) H) Q61) Q61) fun Q74 => cnd t34_73 (fun Q81 => Q81 .normal (upd (upd (upd (upd e70 32 t32_71) 33 t33_72) 34 t34_73) 4 (.bool false))
  H) (fun Q82 => Q82 .normal (upd (upd (upd e70 32 t32_71) 33 t33_72) 34 t34_73) H) Q74) Q61) fun Q69 => cnd t31_68 (fun Q83 => Q83 .ret (upd (upd (upd (upd (upd (upd
  e63 27 t27_64) 29 t29_65) 28 t28_66) 30 t30_67) 31 t31_68) 2 (.bool false)) H) (fun Q84 => Q84 .normal (upd (upd (upd (upd (upd e63 27 t27_64) 29 t29_65) 28 t28_66) 30
  t30_67) 31 t31_68) H) Q69)) Q61) fun Q62 => cnd t26_60 (fun Q85 => Q85 .ret (upd (upd (upd (upd (upd (upd (upd (upd e50 21 t21_54) 22 t22_55) 6 t6_56) 23 t23_57) 24
  t24_58) 25 t25_59) 26 t26_60) 2 (.bool true)) H) (fun Q86 => Q86 .normal (upd (upd (upd (upd (upd (upd (upd e50 21 t21_54) 22 t22_55) 6 t6_56) 23 t23_57) 24 t24_58) 25
  t25_59) 26 t26_60) H) Q62) Q) fun Q49 => cnd t20_48 (fun Q87 => Q87 .normal (upd e 20 t20_48) H) (fun Q88 => Q88 (.exit 0) (upd e 20 t20_48) H) Q49
theorem h3_0 (S : Sys) (e : Fe) (H : Heap) (Q : Kx) : wpC S b3_0 e H Q = s3_0 S e H Q := by kernel_rfl
theorem l3_0 (S : Sys) {Q : Kx} (I : Nat → Fe → Heap → Prop) (d : Nat) {e0 : Fe} {H : Heap} (h0 : I d e0 H) (hr : ∀ (d : Nat) (e : Fe) (H : Heap), I d e H → s3_0 S e H
  (sq (fun e' H' => ∃ d', d' < d ∧ I d' e' H') Q)) : WL S b3_0 e0 H Q := WL_inv I d h0 fun d e H hi => (h3_0 S e H _).mpr (hr d e H hi)
theorem u3_0 (S : Sys) {Q : Kx} {e : Fe} {H : Heap} (h : s3_0 S e H (sq (fun e' H' => WL S b3_0 e' H' Q) Q)) : WL S b3_0 e H Q := WL_once ((h3_0 S e H _).mpr h)
def s3 (S : Sys) (a0 : Value) (H : Heap) (R : Kv) : Prop := run S (.call 13 []) [] H fun t12_1 H => run S (.un .not (.c t12_1)) [] H fun t13_2 H => jn (sq (fun e4 H =>
  run S (.lenL (.c (e4 0))) [] H fun t15_5 H => run S (.bin .gtr (.c t15_5) (.c (.int .i64 60))) [] H fun t16_6 H => jn (sq (fun e8 H => run S (.lenL (.c (e8 0))) [] H
  fun t18_9 H => jn (sq (fun e11 H => run S (.call 17 [(.c (e11 0))]) [] H fun t43_12 H => run S (.xt (.c t43_12) 0) [] H fun t44_13 H => run S (.xt (.c t43_12) 1) [] H
  fun t45_14 H => run S (.un .not (.c (e11 4))) [] H fun t47_15 H => jn (sq (fun e17 H => run S (.call 18 [(.c (e17 7))]) [] H fun t56_18 H => run S (.xt (.c t56_18) 0)
  [] H fun t57_19 H => run S (.xt (.c t56_18) 1) [] H fun t58_20 H => run S (.xt (.c t56_18) 2) [] H fun t59_21 H => run S (.bin .eql (.c (e17 8)) (.c (.int .i64 0))) []
  H fun t61_22 H => gd t61_22 true (run S (.mv (.c (e17 7))) [] H) H fun t63_23 H => gd t61_22 true (run S (.mv (.c (e17 3))) [] H) H fun t64_24 H => gd t61_22 true (run
  S (.bin .eql (.c t63_23) (.c t64_24)) [] H) H fun t65_25 H => run S (.pick (.c t61_22) (.c t65_25) (.c (.bool false))) [] H fun t66_26 H => gd t66_26 true (run S (.mv
  (.c t58_20)) [] H) H fun t68_27 H => gd t66_26 true (run S (.bin .eql (.c t68_27) (.c (.int .i64 0))) [] H) H fun t69_28 H => run S (.pick (.c t66_26) (.c t69_28) (.c
  (.bool false))) [] H fun t70_29 H => gd t70_29 true (run S (.mv (.c t59_21)) [] H) H fun t72_30 H => gd t70_29 true (run S (.bin .eql (.c t72_30) (.c (.int .i64 0)))
  [] H) H fun t73_31 H => run S (.pick (.c t70_29) (.c t73_31) (.c (.bool false))) [] H fun t74_32 H => gd t74_32 true (run S (.mv (.c t57_19)) [] H) H fun t76_33 H =>
  gd t74_32 true (run S (.mv (.c (e17 0))) [] H) H fun t77_34 H => gd t74_32 true (run S (.call 19 [(.c t76_33), (.c t77_34)]) [] H) H fun t78_35 H => run S (.pick (.c
  t74_32) (.c t78_35) (.c (.bool false))) [] H fun t79_36 H => R t79_36 H) (fn [(.t 2)] R)) fun Q16 => cnd t47_15 (fun Q37 => run S (.bin .eql (.c t44_13) (.c (.string
  (bs [])))) [] H fun t49_39 H => gd t49_39 true (run S (.mv (.c t45_14)) [] H) H fun t51_40 H => gd t49_39 true (run S (.bin .eql (.c t51_40) (.c (.int .i64 3))) [] H)
  H fun t52_41 H => run S (.pick (.c t49_39) (.c t52_41) (.c (.bool false))) [] H fun t53_42 H => Q37 .ret (upd (upd (upd (upd (upd (upd (upd (upd (upd (upd (upd (upd
  (upd (upd (upd (upd e11 42 (e11 0)) 43 t43_12) 41 t43_12) 44 t44_13) 45 t45_14) 7 t44_13) 8 t45_14) 46 (e11 4)) 47 t47_15) 48 t44_13) 49 t49_39) 50 t49_39) 51 t51_40)
  52 t52_41) 53 t53_42) 2 t53_42) H) (fun Q38 => Q38 .normal (upd (upd (upd (upd (upd (upd (upd (upd (upd e11 42 (e11 0)) 43 t43_12) 41 t43_12) 44 t44_13) 45 t45_14) 7
  t44_13) 8 t45_14) 46 (e11 4)) 47 t47_15) H) Q16) (fn [(.t 2)] R)) fun Q10 => jn (blk 0 Q10) fun Q43 => WL S b3_0 (upd (upd (upd (upd (upd e8 3 (.string (bs []))) 4
  (.bool true)) 17 (e8 0)) 18 t18_9) 19 (.int .i64 0)) H Q43) (fn [(.t 2)] R)) fun Q7 => cnd t16_6 (fun Q44 => Q44 .ret (upd (upd (upd (upd e4 14 (e4 0)) 15 t15_5) 16
  t16_6) 2 (.bool true)) H) (fun Q45 => Q45 .normal (upd (upd (upd e4 14 (e4 0)) 15 t15_5) 16 t16_6) H) Q7) (fn [(.t 2)] R)) fun Q3 => cnd t13_2 (fun Q46 => Q46 .ret
  (upd (upd (upd (upd (Env.get [a0]) 2 (.bool false)) 12 t12_1) 13 t13_2) 2 (.bool false)) H) (fun Q47 => Q47 .normal (upd (upd (upd (Env.get [a0]) 2 (.bool false)) 12
  t12_1) 13 t13_2) H) Q3
theorem h3 (S : Sys) (a0 : Value) (H : Heap) (R : Kv) : wpC S k3.body (Env.get [a0]) H (fn [(.t 2)] R) = s3 S a0 H R := by kernel_rfl
theorem w3 {S : Sys} (hR : S.R 3 = none) (hF : S.F 3 = some k3) (a0 : Value) {H : Heap} {R : Kv} (h : s3 S a0 H R) : Wf S 3 [a0] H R := Wf_sh hR hF ((h3 S a0 H R).mpr h)
def b4_0 : KCode := (.seq (.seq (.reg [(.op (some 23) none (.mv (.t 7))), (.op (some 24) none (.mv (.t 0))), (.op (some 25) none (.lenS (.t 24))), (.op (some 26) none
  (.bin .lss (.t 23) (.t 25)))]) (.cond (.t 26) .skip (.exit 0))) (.block 1 (.seq (.reg [(.op (some 28) none (.mv (.t 0))), (.op (some 29) none (.mv (.t 7))), (.op (some
  30) none (.slS (.t 28) (some (.t 29)) none)), (.op (some 31) none (.call 20 [(.t 30)])), (.op (some 27) none (.mv (.t 31))), (.op (some 32) none (.xt (.t 27) 0)), (.op
  (some 33) none (.xt (.t 27) 1)), (.op (some 8) none (.alloc 25 [(.int .i64 0), (.int .i64 0), (.int .i64 0), (.bool false), (.string (bs []))])), (.op none none (.stn
  5 (.t 8) (.t 32))), (.op (some 9) none (.mv (.t 33)))]) (.seq (.seq (.reg [(.op (some 34) none (.mv (.t 9))), (.op (some 35) none (.bin .eql (.t 34) (.c (.int .i64
  0))))]) (.cond (.t 35) (.seq (.reg [(.op (some 36) none (.mv (.t 4))), (.op (some 37) none (.bin .eql (.t 36) (.c (.int .i64 3)))), (.op (some 38) none (.mv (.t 37))),
  (.op (some 39) (some (38, true)) (.mv (.t 5))), (.op (some 40) (some (38, true)) (.mv (.t 7))), (.op (some 41) (some (38, true)) (.bin .eql (.t 39) (.t 40))), (.op
  (some 42) none (.pick (.t 38) (.t 41) (.c (.bool false)))), (.op (some 43) none (.mv (.t 42))), (.op (some 44) (some (43, true)) (.mv (.t 3))), (.op (some 45) (some
  (43, true)) (.lenL (.t 44))), (.op (some 46) (some (43, true)) (.bin .eql (.t 45) (.c (.int .i64 0)))), (.op (some 47) none (.pick (.t 43) (.t 46) (.c (.bool
  false)))), (.op (some 2) none (.mv (.t 47)))]) .ret) .skip)) (.reg [(.op (some 48) none (.mv (.t 6))), (.op (some 49) none (.ldn 5 (.t 8))), (.op (some 50) none (.bsl
  25 1 [(.int .i64 0), (.int .i64 0), (.int .i64 0), (.bool false), (.string (bs []))] [(0, (5, (.t 49)))])), (.op (some 51) none (.app 25 5 48 (.t 48) (.t 50))), (.op
  (some 52) none (.mv (.t 7))), (.op (some 53) none (.mv (.t 9))), (.op (some 54) none (.bin .add (.t 52) (.t 53))), (.op (some 6) none (.mv (.t 51))), (.op (some 7)
  none (.mv (.t 54)))])))))
def s4_0 (S : Sys) (e : Fe) (H : Heap) (Q : Kx) : Prop := run S (.lenS (.c (e 0))) [] H fun t25_38 H => run S (.bin .lss (.c (e 7)) (.c t25_38)) [] H fun t26_39 H => jn
  (sq (fun e41 H => run S (.slS (.c (e41 0)) (some (.c (e41 7))) none) [] H fun t30_42 H => run S (.call 20 [(.c t30_42)]) [] H fun t31_43 H => run S (.xt (.c t31_43) 0)
  [] H fun t32_44 H => run S (.xt (.c t31_43) 1) [] H fun t33_45 H => run S (.alloc 25 [(.int .i64 0), (.int .i64 0), (.int .i64 0), (.bool false), (.string (bs []))])
  [] H fun t8_46 H => run S (.stn 5 (.c t8_46) (.c t32_44)) [] H fun _ H => run S (.bin .eql (.c t33_45) (.c (.int .i64 0))) [] H fun t35_47 H => jn (blk 1 Q) fun Q48 =>
  jn (sq (fun e50 H => run S (.ldn 5 (.c (e50 8))) [] H fun t49_51 H => run S (.bsl 25 1 [(.int .i64 0), (.int .i64 0), (.int .i64 0), (.bool false), (.string (bs []))]
  [(0, (5, (.c t49_51)))]) [] H fun t50_52 H => run S (.app 25 5 48 (.c (e50 6)) (.c t50_52)) [] H fun t51_53 H => run S (.bin .add (.c (e50 7)) (.c (e50 9))) [] H fun
  t54_54 H => Q48 .normal (upd (upd (upd (upd (upd (upd (upd (upd (upd e50 48 (e50 6)) 49 t49_51) 50 t50_52) 51 t51_53) 52 (e50 7)) 53 (e50 9)) 54 t54_54) 6 t51_53) 7
  t54_54) H) Q48) fun Q49 => cnd t35_47 (fun Q55 => run S (.bin .eql (.c (e41 4)) (.c (.int .i64 3))) [] H fun t37_57 H => gd t37_57 true (run S (.mv (.c (e41 5))) [] H)
  H fun t39_58 H => gd t37_57 true (run S (.mv (.c (e41 7))) [] H) H fun t40_59 H => gd t37_57 true (run S (.bin .eql (.c t39_58) (.c t40_59)) [] H) H fun t41_60 H =>
  run S (.pick (.c t37_57) (.c t41_60) (.c (.bool false))) [] H fun t42_61 H => gd t42_61 true (run S (.mv (.c (e41 3))) [] H) H fun t44_62 H => gd t42_61 true (run S
  (.lenL (.c t44_62)) [] H) H fun t45_63 H => gd t42_61 true (run S (.bin .eql (.c t45_63) (.c (.int .i64 0))) [] H) H fun t46_64 H => run S (.pick (.c t42_61) (.c
  t46_64) (.c (.bool false))) [] H fun t47_65 H => Q55 .ret (upd (upd (upd (upd (upd (upd (upd (upd (upd (upd (upd (upd (upd (upd (upd (upd (upd (upd (upd (upd (upd (upd
  (upd (upd e41 28 (e41 0)) 29 (e41 7)) 30 t30_42) 31 t31_43) 27 t31_43) 32 t32_44) 33 t33_45) 8 t8_46) 9 t33_45) 34 t33_45) 35 t35_47) 36 (e41 4)) 37 t37_57) 38 t37_57)
  39 t39_58) 40 t40_59) 41 t41_60) 42 t42_61) 43 t42_61) 44 t44_62) 45 t45_63) 46 t46_64) 47 t47_65) 2 t47_65) H) (fun Q56 => Q56 .normal (upd (upd (upd (upd (upd (upd
  (upd (upd (upd (upd (upd e41 28 (e41 0)) 29 (e41 7)) 30 t30_42) 31 t31_43) 27 t31_43) 32 t32_44) 33 t33_45) 8 t8_46) 9 t33_45) 34 t33_45) 35 t35_47) H) Q49) Q) fun Q40
  => cnd t26_39 (fun Q66 => Q66 .normal (upd (upd (upd (upd e 23 (e 7)) 24 (e 0)) 25 t25_38) 26 t26_39) H) (fun Q67 => Q67 (.exit 0) (upd (upd (upd (upd e 23 (e 7)) 24
  (e 0)) 25 t25_38) 26 t26_39) H) Q40
theorem h4_0 (S : Sys) (e : Fe) (H : Heap) (Q : Kx) : wpC S b4_0 e H Q = s4_0 S e H Q := by kernel_rfl
theorem l4_0 (S : Sys) {Q : Kx} (I : Nat → Fe → Heap → Prop) (d : Nat) {e0 : Fe} {H : Heap} (h0 : I d e0 H) (hr : ∀ (d : Nat) (e : Fe) (H : Heap), I d e H → s4_0 S e H
  (sq (fun e' H' => ∃ d', d' < d ∧ I d' e' H') Q)) : WL S b4_0 e0 H Q := WL_inv I d h0 fun d e H hi => (h4_0 S e H _).mpr (hr d e H hi)
theorem u4_0 (S : Sys) {Q : Kx} {e : Fe} {H : Heap} (h : s4_0 S e H (sq (fun e' H' => WL S b4_0 e' H' Q) Q)) : WL S b4_0 e H Q := WL_once ((h4_0 S e H _).mpr h)
def s4 (S : Sys) (a0 : Value) (H : Heap) (R : Kv) : Prop := run S (.call 13 []) [] H fun t12_1 H => run S (.un .not (.c t12_1)) [] H fun t13_2 H => jn (sq (fun e4 H =>
  run S (.lenS (.c (e4 0))) [] H fun t15_5 H => run S (.bin .gtr (.c t15_5) (.c (.int .i64 300))) [] H fun t16_6 H => jn (sq (fun e8 H => run S (.call 18 [(.c (e8 0))])
  [] H fun t19_9 H => run S (.xt (.c t19_9) 0) [] H fun t20_10 H => run S (.xt (.c t19_9) 1) [] H fun t21_11 H => run S (.xt (.c t19_9) 2) [] H fun t22_12 H => jn (sq
  (fun e14 H => run S (.call 17 [(.c (e14 3))]) [] H fun t57_15 H => run S (.xt (.c t57_15) 0) [] H fun t58_16 H => run S (.xt (.c t57_15) 1) [] H fun t59_17 H => run S
  (.bin .eql (.c (e14 4)) (.c (.int .i64 0))) [] H fun t61_18 H => gd t61_18 true (run S (.mv (.c (e14 5))) [] H) H fun t63_19 H => gd t61_18 true (run S (.bin .eql (.c
  t63_19) (.c (.int .i64 0))) [] H) H fun t64_20 H => run S (.pick (.c t61_18) (.c t64_20) (.c (.bool false))) [] H fun t65_21 H => gd t65_21 true (run S (.mv (.c (e14
  3))) [] H) H fun t67_22 H => gd t65_21 true (run S (.mv (.c (e14 6))) [] H) H fun t68_23 H => gd t65_21 true (run S (.call 19 [(.c t67_22), (.c t68_23)]) [] H) H fun
  t69_24 H => run S (.pick (.c t65_21) (.c t69_24) (.c (.bool false))) [] H fun t70_25 H => gd t70_25 true (run S (.mv (.c t59_17)) [] H) H fun t72_26 H => gd t70_25
  true (run S (.bin .eql (.c t72_26) (.c (.int .i64 0))) [] H) H fun t73_27 H => run S (.pick (.c t70_25) (.c t73_27) (.c (.bool false))) [] H fun t74_28 H => gd t74_28
  true (run S (.mv (.c t58_16)) [] H) H fun t76_29 H => gd t74_28 true (run S (.mv (.c (e14 0))) [] H) H fun t77_30 H => gd t74_28 true (run S (.bin .eql (.c t76_29) (.c
  t77_30)) [] H) H fun t78_31 H => run S (.pick (.c t74_28) (.c t78_31) (.c (.bool false))) [] H fun t79_32 H => R t79_32 H) (fn [(.t 2)] R)) fun Q13 => jn (blk 0 Q13)
  fun Q33 => WL S b4_0 (upd (upd (upd (upd (upd (upd (upd (upd (upd (upd (upd e8 18 (e8 0)) 19 t19_9) 17 t19_9) 20 t20_10) 21 t21_11) 22 t22_12) 3 t20_10) 4 t21_11) 5
  t22_12) 6 (.slice none 0 0)) 7 (.int .i64 0)) H Q33) (fn [(.t 2)] R)) fun Q7 => cnd t16_6 (fun Q34 => Q34 .ret (upd (upd (upd (upd e4 14 (e4 0)) 15 t15_5) 16 t16_6) 2
  (.bool true)) H) (fun Q35 => Q35 .normal (upd (upd (upd e4 14 (e4 0)) 15 t15_5) 16 t16_6) H) Q7) (fn [(.t 2)] R)) fun Q3 => cnd t13_2 (fun Q36 => Q36 .ret (upd (upd
  (upd (upd (Env.get [a0]) 2 (.bool false)) 12 t12_1) 13 t13_2) 2 (.bool false)) H) (fun Q37 => Q37 .normal (upd (upd (upd (Env.get [a0]) 2 (.bool false)) 12 t12_1) 13
  t13_2) H) Q3
theorem h4 (S : Sys) (a0 : Value) (H : Heap) (R : Kv) : wpC S k4.body (Env.get [a0]) H (fn [(.t 2)] R) = s4 S a0 H R := by kernel_rfl
theorem w4 {S : Sys} (hR : S.R 4 = none) (hF : S.F 4 = some k4) (a0 : Value) {H : Heap} {R : Kv} (h : s4 S a0 H R) : Wf S 4 [a0] H R := Wf_sh hR hF ((h4 S a0 H R).mpr h)
def s14 (S : Sys) (a0 : Value) (H : Heap) (R : Kv) : Prop := run S (.box 25 (.c a0)) [] H fun t1_1 H => run S (.fad 0 (.c t1_1)) [] H fun t3_2 H => run S (.ld (.c t3_2))
  [] H fun t4_3 H => run S (.bin .geq (.c t4_3) (.c (.int .i64 0))) [] H fun t5_4 H => gd t5_4 true (run S (.fad 0 (.c t1_1)) [] H) H fun t7_5 H => gd t5_4 true (run S
  (.ld (.c t7_5)) [] H) H fun t8_6 H => gd t5_4 true (run S (.bin .leq (.c t8_6) (.c (.int .i64 9))) [] H) H fun t9_7 H => run S (.pick (.c t5_4) (.c t9_7) (.c (.bool
  false))) [] H fun t10_8 H => gd t10_8 true (run S (.fad 1 (.c t1_1)) [] H) H fun t12_9 H => gd t10_8 true (run S (.ld (.c t12_9)) [] H) H fun t13_10 H => gd t10_8 true
  (run S (.bin .geq (.c t13_10) (.c (.int .i64 0))) [] H) H fun t14_11 H => run S (.pick (.c t10_8) (.c t14_11) (.c (.bool false))) [] H fun t15_12 H => gd t15_12 true
  (run S (.fad 1 (.c t1_1)) [] H) H fun t17_13 H => gd t15_12 true (run S (.ld (.c t17_13)) [] H) H fun t18_14 H => gd t15_12 true (run S (.bin .leq (.c t18_14) (.c
  (.int .i64 255))) [] H) H fun t19_15 H => run S (.pick (.c t15_12) (.c t19_15) (.c (.bool false))) [] H fun t20_16 H => gd t20_16 true (run S (.fad 2 (.c t1_1)) [] H)
  H fun t22_17 H => gd t20_16 true (run S (.ld (.c t22_17)) [] H) H fun t23_18 H => gd t20_16 true (run S (.bin .geq (.c t23_18) (.c (.int .i64 0))) [] H) H fun t24_19 H
  => run S (.pick (.c t20_16) (.c t24_19) (.c (.bool false))) [] H fun t25_20 H => gd t25_20 true (run S (.fad 2 (.c t1_1)) [] H) H fun t27_21 H => gd t25_20 true (run S
  (.ld (.c t27_21)) [] H) H fun t28_22 H => gd t25_20 true (run S (.bin .leq (.c t28_22) (.c (.int .i64 1073741824))) [] H) H fun t29_23 H => run S (.pick (.c t25_20)
  (.c t29_23) (.c (.bool false))) [] H fun t30_24 H => gd t30_24 true (run S (.fad 4 (.c t1_1)) [] H) H fun t32_25 H => gd t30_24 true (run S (.ld (.c t32_25)) [] H) H
  fun t33_26 H => gd t30_24 true (run S (.lenS (.c t33_26)) [] H) H fun t34_27 H => gd t30_24 true (run S (.bin .leq (.c t34_27) (.c (.int .i64 600))) [] H) H fun t35_28
  H => run S (.pick (.c t30_24) (.c t35_28) (.c (.bool false))) [] H fun t36_29 H => R t36_29 H
theorem h14 (S : Sys) (a0 : Value) (H : Heap) (R : Kv) : wpC S k14.body (Env.get [a0]) H (fn [(.t 2)] R) = s14 S a0 H R := by kernel_rfl
theorem w14 {S : Sys} (hR : S.R 14 = none) (hF : S.F 14 = some k14) (a0 : Value) {H : Heap} {R : Kv} (h : s14 S a0 H R) : Wf S 14 [a0] H R := Wf_sh hR hF ((h14 S a0 H
  R).mpr h)
def s15 (S : Sys) (a0 : Value) (H : Heap) (R : Kv) : Prop := run S (.box 25 (.c a0)) [] H fun t1_1 H => run S (.fad 0 (.c t1_1)) [] H fun t3_2 H => run S (.ld (.c t3_2))
  [] H fun t4_3 H => run S (.bin .geq (.c t4_3) (.c (.int .i64 0))) [] H fun t5_4 H => gd t5_4 true (run S (.fad 0 (.c t1_1)) [] H) H fun t7_5 H => gd t5_4 true (run S
  (.ld (.c t7_5)) [] H) H fun t8_6 H => gd t5_4 true (run S (.bin .leq (.c t8_6) (.c (.int .i64 9))) [] H) H fun t9_7 H => run S (.pick (.c t5_4) (.c t9_7) (.c (.bool
  false))) [] H fun t10_8 H => gd t10_8 true (run S (.fad 1 (.c t1_1)) [] H) H fun t12_9 H => gd t10_8 true (run S (.ld (.c t12_9)) [] H) H fun t13_10 H => gd t10_8 true
  (run S (.bin .geq (.c t13_10) (.c (.int .i64 0))) [] H) H fun t14_11 H => run S (.pick (.c t10_8) (.c t14_11) (.c (.bool false))) [] H fun t15_12 H => gd t15_12 true
  (run S (.fad 1 (.c t1_1)) [] H) H fun t17_13 H => gd t15_12 true (run S (.ld (.c t17_13)) [] H) H fun t18_14 H => gd t15_12 true (run S (.bin .leq (.c t18_14) (.c
  (.int .i64 255))) [] H) H fun t19_15 H => run S (.pick (.c t15_12) (.c t19_15) (.c (.bool false))) [] H fun t20_16 H => gd t20_16 true (run S (.fad 2 (.c t1_1)) [] H)
  H fun t22_17 H => gd t20_16 true (run S (.ld (.c t22_17)) [] H) H fun t23_18 H => gd t20_16 true (run S (.bin .geq (.c t23_18) (.c (.int .i64 0))) [] H) H fun t24_19 H
  => run S (.pick (.c t20_16) (.c t24_19) (.c (.bool false))) [] H fun t25_20 H => gd t25_20 true (run S (.fad 2 (.c t1_1)) [] H) H fun t27_21 H => gd t25_20 true (run S
  (.ld (.c t27_21)) [] H) H fun t28_22 H => gd t25_20 true (run S (.bin .leq (.c t28_22) (.c (.int .i64 1073741824))) [] H) H fun t29_23 H => run S (.pick (.c t25_20)
  (.c t29_23) (.c (.bool false))) [] H fun t30_24 H => gd t30_24 true (run S (.fad 4 (.c t1_1)) [] H) H fun t32_25 H => gd t30_24 true (run S (.ld (.c t32_25)) [] H) H
  fun t33_26 H => gd t30_24 true (run S (.lenS (.c t33_26)) [] H) H fun t34_27 H => gd t30_24 true (run S (.bin .leq (.c t34_27) (.c (.int .i64 600))) [] H) H fun t35_28
  H => run S (.pick (.c t30_24) (.c t35_28) (.c (.bool false))) [] H fun t36_29 H => R t36_29 H
theorem h15 (S : Sys) (a0 : Value) (H : Heap) (R : Kv) : wpC S k15.body (Env.get [a0]) H (fn [(.t 2)] R) = s15 S a0 H R := by kernel_rfl
theorem w15 {S : Sys} (hR : S.R 15 = none) (hF : S.F 15 = some k15) (a0 : Value) {H : Heap} {R : Kv} (h : s15 S a0 H R) : Wf S 15 [a0] H R := Wf_sh hR hF ((h15 S a0 H
  R).mpr h)
def s16 (S : Sys) (a0 : Value) (H : Heap) (R : Kv) : Prop := run S (.box 25 (.c a0)) [] H fun t1_1 H => run S (.fad 0 (.c t1_1)) [] H fun t4_2 H => run S (.ld (.c t4_2))
  [] H fun t5_3 H => run S (.fad 3 (.c t1_1)) [] H fun t6_4 H => run S (.ld (.c t6_4)) [] H fun t7_5 H => jn (sq (fun e7 H => run S (.cvt .u8 (.c (e7 3))) [] H fun t11_8
  H => run S (.fad 1 (.c (e7 1))) [] H fun t12_9 H => run S (.ld (.c t12_9)) [] H fun t13_10 H => run S (.cvt .u8 (.c t13_10)) [] H fun t14_11 H => run S (.fad 2 (.c (e7
  1))) [] H fun t17_12 H => run S (.ld (.c t17_12)) [] H fun t18_13 H => run S (.cvt .u64 (.c t18_13)) [] H fun t19_14 H => run S (.callp 50 [(.c t19_14)]) [] H fun
  t20_15 H => run S (.fad 4 (.c (e7 1))) [] H fun t22_16 H => run S (.ld (.c t22_16)) [] H fun t23_17 H => run S (.callp 51 [(.c t23_17)]) [] H fun t24_18 H => run S
  (.bsl 5 2 [(.int .u8 0), (.int .u8 0)] [(0, (1, (.c t11_8))), (1, (1, (.c t14_11)))]) [] H fun t15_19 H => ck (kop (.ld (.c t17_12)) [] H) t18_13 (ck (kop (.ld (.c
  t22_16)) [] H) t23_17 (run S (.b2s 5 (.c t15_19)) [] H fun t16_20 H => run S (.bin .add (.c t16_20) (.c t20_15)) [] H fun t21_21 H => run S (.bin .add (.c t21_21) (.c
  t24_18)) [] H fun t25_22 H => R t25_22 H))) (fn [(.t 2)] R)) fun Q6 => cnd t7_5 (fun Q23 => run S (.bin .add (.c t5_3) (.c (.int .i64 16))) [] H fun t9_25 H => Q23
  .normal (upd (upd (upd (upd (upd (upd (upd (upd (upd (upd (Env.get [a0]) 1 t1_1) 2 (.string (bs []))) 4 t4_2) 5 t5_3) 3 t5_3) 6 t6_4) 7 t7_5) 8 t5_3) 9 t9_25) 3 t9_25)
  H) (fun Q24 => Q24 .normal (upd (upd (upd (upd (upd (upd (upd (Env.get [a0]) 1 t1_1) 2 (.string (bs []))) 4 t4_2) 5 t5_3) 3 t5_3) 6 t6_4) 7 t7_5) H) Q6
theorem h16 (S : Sys) (a0 : Value) (H : Heap) (R : Kv) : wpC S k16.body (Env.get [a0]) H (fn [(.t 2)] R) = s16 S a0 H R := by kernel_rfl
theorem w16 {S : Sys} (hR : S.R 16 = none) (hF : S.F 16 = some k16) (a0 : Value) {H : Heap} {R : Kv} (h : s16 S a0 H R) : Wf S 16 [a0] H R := Wf_sh hR hF ((h16 S a0 H
  R).mpr h)
def b17_0 : KCode := (.seq (.reg [(.op (some 11) none (.bin .lss (.t 10) (.t 9)))]) (.seq (.cond (.t 11) .skip (.exit 0)) (.seq (.block 1 (.seq (.reg [(.op (some 12)
  none (.iad 5 (.t 8) (.t 10))), (.op (some 13) none (.ldn 5 (.t 12))), (.op (some 6) none (.alloc 25 [(.int .i64 0), (.int .i64 0), (.int .i64 0), (.bool false),
  (.string (bs []))])), (.op none none (.stn 5 (.t 6) (.t 13)))]) (.seq (.seq (.reg [(.op (some 14) none (.ldn 5 (.t 6))), (.op (some 15) none (.call 14 [(.t 14)])),
  (.op (some 16) none (.un .not (.t 15)))]) (.cond (.t 16) (.seq (.reg [(.op (some 2) none (.mv (.c (.string (bs []))))), (.op (some 3) none (.mv (.c (.int .i64 3))))])
  .ret) .skip)) (.seq (.reg [(.op (some 17) none (.fad 0 (.t 6))), (.op (some 18) none (.ld (.t 17))), (.op (some 7) none (.mv (.t 18)))]) (.seq (.seq (.reg [(.op (some
  19) none (.fad 3 (.t 6))), (.op (some 20) none (.ld (.t 19)))]) (.cond (.t 20) (.reg [(.op (some 21) none (.mv (.t 7))), (.op (some 22) none (.bin .or (.t 21) (.c
  (.int .i64 16)))), (.op (some 7) none (.mv (.t 22)))]) .skip)) (.reg [(.op (some 23) none (.mv (.t 7))), (.op (some 24) none (.cvt .u64 (.t 23))), (.op (some 26) none
  (.fad 1 (.t 6))), (.op (some 27) none (.ld (.t 26))), (.op (some 28) none (.cvt .u64 (.t 27))), (.op (some 30) none (.fad 2 (.t 6))), (.op (some 31) none (.ld (.t
  30))), (.op (some 32) none (.cvt .u64 (.t 31))), (.op (some 34) none (.fad 4 (.t 6))), (.op (some 35) none (.ld (.t 34))), (.op (some 25) none (.call 52 [(.t 4), (.t
  24), (.c (.int .i64 1))])), (.chk 27 none (.ld (.t 26))), (.chk 31 none (.ld (.t 30))), (.chk 35 none (.ld (.t 34))), (.op (some 29) none (.call 52 [(.t 25), (.t 28),
  (.c (.int .i64 1))])), (.chk 31 none (.ld (.t 30))), (.chk 35 none (.ld (.t 34))), (.op (some 33) none (.call 53 [(.t 29), (.t 32)])), (.chk 35 none (.ld (.t 34))),
  (.op (some 36) none (.call 54 [(.t 33), (.t 35)]))])))))) (.reg [(.op (some 37) none (.bin .add (.t 10) (.c (.int .i64 1)))), (.op (some 10) none (.mv (.t 37)))]))))
def s17_0 (S : Sys) (e : Fe) (H : Heap) (Q : Kx) : Prop := run S (.bin .lss (.c (e 10)) (.c (e 9))) [] H fun t11_7 H => jn (sq (fun e9 H => jn (sq (fun e11 H => run S
  (.bin .add (.c (e11 10)) (.c (.int .i64 1))) [] H fun t37_12 H => Q .normal (upd (upd e11 37 t37_12) 10 t37_12) H) Q) fun Q10 => run S (.iad 5 (.c (e9 8)) (.c (e9
  10))) [] H fun t12_13 H => run S (.ldn 5 (.c t12_13)) [] H fun t13_14 H => run S (.alloc 25 [(.int .i64 0), (.int .i64 0), (.int .i64 0), (.bool false), (.string (bs
  []))]) [] H fun t6_15 H => run S (.stn 5 (.c t6_15) (.c t13_14)) [] H fun _ H => run S (.ldn 5 (.c t6_15)) [] H fun t14_16 H => run S (.call 14 [(.c t14_16)]) [] H fun
  t15_17 H => run S (.un .not (.c t15_17)) [] H fun t16_18 H => jn (blk 1 Q10) fun Q19 => jn (sq (fun e21 H => run S (.fad 0 (.c (e21 6))) [] H fun t17_22 H => run S
  (.ld (.c t17_22)) [] H fun t18_23 H => run S (.fad 3 (.c (e21 6))) [] H fun t19_24 H => run S (.ld (.c t19_24)) [] H fun t20_25 H => jn (sq (fun e27 H => run S (.cvt
  .u64 (.c (e27 7))) [] H fun t24_28 H => run S (.fad 1 (.c (e27 6))) [] H fun t26_29 H => run S (.ld (.c t26_29)) [] H fun t27_30 H => run S (.cvt .u64 (.c t27_30)) []
  H fun t28_31 H => run S (.fad 2 (.c (e27 6))) [] H fun t30_32 H => run S (.ld (.c t30_32)) [] H fun t31_33 H => run S (.cvt .u64 (.c t31_33)) [] H fun t32_34 H => run
  S (.fad 4 (.c (e27 6))) [] H fun t34_35 H => run S (.ld (.c t34_35)) [] H fun t35_36 H => run S (.call 52 [(.c (e27 4)), (.c t24_28), (.c (.int .i64 1))]) [] H fun
  t25_37 H => ck (kop (.ld (.c t26_29)) [] H) t27_30 (ck (kop (.ld (.c t30_32)) [] H) t31_33 (ck (kop (.ld (.c t34_35)) [] H) t35_36 (run S (.call 52 [(.c t25_37), (.c
  t28_31), (.c (.int .i64 1))]) [] H fun t29_38 H => ck (kop (.ld (.c t30_32)) [] H) t31_33 (ck (kop (.ld (.c t34_35)) [] H) t35_36 (run S (.call 53 [(.c t29_38), (.c
  t32_34)]) [] H fun t33_39 H => ck (kop (.ld (.c t34_35)) [] H) t35_36 (run S (.call 54 [(.c t33_39), (.c t35_36)]) [] H fun t36_40 H => Q19 .normal (upd (upd (upd (upd
  (upd (upd (upd (upd (upd (upd (upd (upd (upd (upd e27 23 (e27 7)) 24 t24_28) 26 t26_29) 27 t27_30) 28 t28_31) 30 t30_32) 31 t31_33) 32 t32_34) 34 t34_35) 35 t35_36) 25
  t25_37) 29 t29_38) 33 t33_39) 36 t36_40) H))))))) Q19) fun Q26 => cnd t20_25 (fun Q41 => run S (.bin .or (.c t18_23) (.c (.int .i64 16))) [] H fun t22_43 H => Q41
  .normal (upd (upd (upd (upd (upd (upd (upd (upd e21 17 t17_22) 18 t18_23) 7 t18_23) 19 t19_24) 20 t20_25) 21 t18_23) 22 t22_43) 7 t22_43) H) (fun Q42 => Q42 .normal
  (upd (upd (upd (upd (upd e21 17 t17_22) 18 t18_23) 7 t18_23) 19 t19_24) 20 t20_25) H) Q26) Q19) fun Q20 => cnd t16_18 (fun Q44 => Q44 .ret (upd (upd (upd (upd (upd
  (upd (upd (upd e9 12 t12_13) 13 t13_14) 6 t6_15) 14 t14_16) 15 t15_17) 16 t16_18) 2 (.string (bs []))) 3 (.int .i64 3)) H) (fun Q45 => Q45 .normal (upd (upd (upd (upd
  (upd (upd e9 12 t12_13) 13 t13_14) 6 t6_15) 14 t14_16) 15 t15_17) 16 t16_18) H) Q20) Q) fun Q8 => cnd t11_7 (fun Q46 => Q46 .normal (upd e 11 t11_7) H) (fun Q47 => Q47
  (.exit 0) (upd e 11 t11_7) H) Q8
theorem h17_0 (S : Sys) (e : Fe) (H : Heap) (Q : Kx) : wpC S b17_0 e H Q = s17_0 S e H Q := by kernel_rfl
theorem l17_0 (S : Sys) {Q : Kx} (I : Nat → Fe → Heap → Prop) (d : Nat) {e0 : Fe} {H : Heap} (h0 : I d e0 H) (hr : ∀ (d : Nat) (e : Fe) (H : Heap), I d e H → s17_0 S e H
  (sq (fun e' H' => ∃ d', d' < d ∧ I d' e' H') Q)) : WL S b17_0 e0 H Q := WL_inv I d h0 fun d e H hi => (h17_0 S e H _).mpr (hr d e H hi)
theorem u17_0 (S : Sys) {Q : Kx} {e : Fe} {H : Heap} (h : s17_0 S e H (sq (fun e' H' => WL S b17_0 e' H' Q) Q)) : WL S b17_0 e H Q := WL_once ((h17_0 S e H _).mpr h)
def s17 (S : Sys) (a0 : Value) (H : Heap) (R : Kv) : Prop := run S (.alloc 74 [(.slice none 0 0)]) [] H fun t4_1 H => run S (.lenL (.c a0)) [] H fun t9_2 H => jn (sq
  (fun e4 H => run S (.call 55 [(.c (e4 4))]) [] H fun t38_5 H => R (tup [t38_5, (.int .i64 0)]) H) (fn [(.t 2), (.t 3)] R)) fun Q3 => jn (blk 0 Q3) fun Q6 => WL S b17_0
  (upd (upd (upd (upd (upd (upd (Env.get [a0]) 2 (.string (bs []))) 3 (.int .i64 0)) 4 t4_1) 8 a0) 9 t9_2) 10 (.int .i64 0)) H Q6
theorem h17 (S : Sys) (a0 : Value) (H : Heap) (R : Kv) : wpC S k17.body (Env.get [a0]) H (fn [(.t 2), (.t 3)] R) = s17 S a0 H R := by kernel_rfl
theorem w17 {S : Sys} (hR : S.R 17 = none) (hF : S.F 17 = some k17) (a0 : Value) {H : Heap} {R : Kv} (h : s17 S a0 H R) : Wf S 17 [a0] H R := Wf_sh hR hF ((h17 S a0 H
  R).mpr h)
def b18_0 : KCode := (.seq (.seq (.reg [(.op (some 10) none (.mv (.t 6))), (.op (some 11) none (.mv (.t 0))), (.op (some 12) none (.lenS (.t 11))), (.op (some 13) none
  (.bin .lss (.t 10) (.t 12)))]) (.cond (.t 13) .skip (.exit 0))) (.block 1 (.seq (.reg [(.op (some 14) none (.mv (.t 0))), (.op (some 15) none (.mv (.t 6))), (.op (some
  16) none (.slS (.t 14) (some (.t 15)) none)), (.op (some 17) none (.call 49 [(.t 16)])), (.op (some 7) none (.mv (.t 17)))]) (.seq (.reg [(.op (some 19) none (.mv (.t
  7))), (.op (some 20) none (.call 56 [(.t 19)])), (.op (some 18) none (.mv (.t 20))), (.op (some 21) none (.xt (.t 18) 0)), (.op (some 22) none (.xt (.t 18) 1)), (.op
  (some 8) none (.alloc 25 [(.int .i64 0), (.int .i64 0), (.int .i64 0), (.bool false), (.string (bs []))])), (.op none none (.stn 5 (.t 8) (.t 21))), (.op (some 9) none
  (.mv (.t 22)))]) (.seq (.seq (.reg [(.op (some 23) none (.mv (.t 9))), (.op (some 24) none (.un .not (.t 23)))]) (.cond (.t 24) (.seq (.reg [(.op (some 25) none (.mv
  (.t 6))), (.op (some 2) none (.mv (.c (.slice none 0 0)))), (.op (some 3) none (.mv (.c (.int .i64 3)))), (.op (some 4) none (.mv (.t 25)))]) .ret) .skip)) (.seq (.reg
  [(.op (some 26) none (.mv (.t 5))), (.op (some 27) none (.ldn 5 (.t 8))), (.op (some 28) none (.bsl 25 1 [(.int .i64 0), (.int .i64 0), (.int .i64 0), (.bool false),
  (.string (bs []))] [(0, (5, (.t 27)))])), (.op (some 29) none (.app 25 5 48 (.t 26) (.t 28))), (.op (some 5) none (.mv (.t 29)))]) (.reg [(.op (some 30) none (.mv (.t
  0))), (.op (some 31) none (.lenS (.t 30))), (.op (some 32) none (.mv (.t 7))), (.op (some 33) none (.call 57 [(.t 32)])), (.op (some 34) none (.lenS (.t 33))), (.op
  (some 35) none (.bin .sub (.t 31) (.t 34))), (.op (some 6) none (.mv (.t 35)))])))))))
def s18_0 (S : Sys) (e : Fe) (H : Heap) (Q : Kx) : Prop := run S (.lenS (.c (e 0))) [] H fun t12_4 H => run S (.bin .lss (.c (e 6)) (.c t12_4)) [] H fun t13_5 H => jn
  (sq (fun e7 H => run S (.slS (.c (e7 0)) (some (.c (e7 6))) none) [] H fun t16_8 H => run S (.call 49 [(.c t16_8)]) [] H fun t17_9 H => run S (.call 56 [(.c t17_9)])
  [] H fun t20_10 H => run S (.xt (.c t20_10) 0) [] H fun t21_11 H => run S (.xt (.c t20_10) 1) [] H fun t22_12 H => run S (.alloc 25 [(.int .i64 0), (.int .i64 0),
  (.int .i64 0), (.bool false), (.string (bs []))]) [] H fun t8_13 H => run S (.stn 5 (.c t8_13) (.c t21_11)) [] H fun _ H => run S (.un .not (.c t22_12)) [] H fun
  t24_14 H => jn (blk 1 Q) fun Q15 => jn (sq (fun e17 H => run S (.ldn 5 (.c (e17 8))) [] H fun t27_18 H => run S (.bsl 25 1 [(.int .i64 0), (.int .i64 0), (.int .i64
  0), (.bool false), (.string (bs []))] [(0, (5, (.c t27_18)))]) [] H fun t28_19 H => run S (.app 25 5 48 (.c (e17 5)) (.c t28_19)) [] H fun t29_20 H => run S (.lenS (.c
  (e17 0))) [] H fun t31_21 H => run S (.call 57 [(.c (e17 7))]) [] H fun t33_22 H => run S (.lenS (.c t33_22)) [] H fun t34_23 H => run S (.bin .sub (.c t31_21) (.c
  t34_23)) [] H fun t35_24 H => Q15 .normal (upd (upd (upd (upd (upd (upd (upd (upd (upd (upd (upd (upd e17 26 (e17 5)) 27 t27_18) 28 t28_19) 29 t29_20) 5 t29_20) 30
  (e17 0)) 31 t31_21) 32 (e17 7)) 33 t33_22) 34 t34_23) 35 t35_24) 6 t35_24) H) Q15) fun Q16 => cnd t24_14 (fun Q25 => Q25 .ret (upd (upd (upd (upd (upd (upd (upd (upd
  (upd (upd (upd (upd (upd (upd (upd (upd (upd (upd e7 14 (e7 0)) 15 (e7 6)) 16 t16_8) 17 t17_9) 7 t17_9) 19 t17_9) 20 t20_10) 18 t20_10) 21 t21_11) 22 t22_12) 8 t8_13)
  9 t22_12) 23 t22_12) 24 t24_14) 25 (e7 6)) 2 (.slice none 0 0)) 3 (.int .i64 3)) 4 (e7 6)) H) (fun Q26 => Q26 .normal (upd (upd (upd (upd (upd (upd (upd (upd (upd (upd
  (upd (upd (upd (upd e7 14 (e7 0)) 15 (e7 6)) 16 t16_8) 17 t17_9) 7 t17_9) 19 t17_9) 20 t20_10) 18 t20_10) 21 t21_11) 22 t22_12) 8 t8_13) 9 t22_12) 23 t22_12) 24
  t24_14) H) Q16) Q) fun Q6 => cnd t13_5 (fun Q27 => Q27 .normal (upd (upd (upd (upd e 10 (e 6)) 11 (e 0)) 12 t12_4) 13 t13_5) H) (fun Q28 => Q28 (.exit 0) (upd (upd
  (upd (upd e 10 (e 6)) 11 (e 0)) 12 t12_4) 13 t13_5) H) Q6
theorem h18_0 (S : Sys) (e : Fe) (H : Heap) (Q : Kx) : wpC S b18_0 e H Q = s18_0 S e H Q := by kernel_rfl
theorem l18_0 (S : Sys) {Q : Kx} (I : Nat → Fe → Heap → Prop) (d : Nat) {e0 : Fe} {H : Heap} (h0 : I d e0 H) (hr : ∀ (d : Nat) (e : Fe) (H : Heap), I d e H → s18_0 S e H
  (sq (fun e' H' => ∃ d', d' < d ∧ I d' e' H') Q)) : WL S b18_0 e0 H Q := WL_inv I d h0 fun d e H hi => (h18_0 S e H _).mpr (hr d e H hi)
theorem u18_0 (S : Sys) {Q : Kx} {e : Fe} {H : Heap} (h : s18_0 S e H (sq (fun e' H' => WL S b18_0 e' H' Q) Q)) : WL S b18_0 e H Q := WL_once ((h18_0 S e H _).mpr h)
def s18 (S : Sys) (a0 : Value) (H : Heap) (R : Kv) : Prop := jn (sq (fun e2 H => R (tup [(e2 5), (.int .i64 0), (.int .i64 0)]) H) (fn [(.t 2), (.t 3), (.t 4)] R)) fun
  Q1 => jn (blk 0 Q1) fun Q3 => WL S b18_0 (upd (upd (upd (upd (upd (Env.get [a0]) 2 (.slice none 0 0)) 3 (.int .i64 0)) 4 (.int .i64 0)) 5 (.slice none 0 0)) 6 (.int
  .i64 0)) H Q3
theorem h18 (S : Sys) (a0 : Value) (H : Heap) (R : Kv) : wpC S k18.body (Env.get [a0]) H (fn [(.t 2), (.t 3), (.t 4)] R) = s18 S a0 H R := by kernel_rfl
theorem w18 {S : Sys} (hR : S.R 18 = none) (hF : S.F 18 = some k18) (a0 : Value) {H : Heap} {R : Kv} (h : s18 S a0 H R) : Wf S 18 [a0] H R := Wf_sh hR hF ((h18 S a0 H
  R).mpr h)
def b19_0 : KCode := (.seq (.reg [(.op (some 14) none (.bin .lss (.t 13) (.t 12)))]) (.seq (.cond (.t 14) .skip (.exit 0)) (.seq (.block 1 (.seq (.reg [(.op (some 15)
  none (.mv (.t 13))), (.op (some 5) none (.mv (.t 15)))]) (.seq (.reg [(.op (some 16) none (.mv (.t 0))), (.op (some 17) none (.mv (.t 5))), (.op (some 18) none (.iad 5
  (.t 16) (.t 17))), (.op (some 19) none (.ldn 5 (.t 18))), (.op (some 20) none (.mv (.t 1))), (.op (some 21) none (.mv (.t 5))), (.op (some 22) none (.iad 5 (.t 20) (.t
  21))), (.op (some 23) none (.ldn 5 (.t 22))), (.op (some 24) none (.eqv (.agg [.int, .int, .int, .bool, .str]) true (.t 19) (.t 23)))]) (.cond (.t 24) (.seq (.reg
  [(.op (some 4) none (.mv (.c (.bool false))))]) .ret) .skip)))) (.reg [(.op (some 25) none (.bin .add (.t 13) (.c (.int .i64 1)))), (.op (some 13) none (.mv (.t
  25)))]))))
def s19_0 (S : Sys) (e : Fe) (H : Heap) (Q : Kx) : Prop := run S (.bin .lss (.c (e 13)) (.c (e 12))) [] H fun t14_12 H => jn (sq (fun e14 H => jn (sq (fun e16 H => run S
  (.bin .add (.c (e16 13)) (.c (.int .i64 1))) [] H fun t25_17 H => Q .normal (upd (upd e16 25 t25_17) 13 t25_17) H) Q) fun Q15 => run S (.iad 5 (.c (e14 0)) (.c (e14
  13))) [] H fun t18_18 H => run S (.ldn 5 (.c t18_18)) [] H fun t19_19 H => run S (.iad 5 (.c (e14 1)) (.c (e14 13))) [] H fun t22_20 H => run S (.ldn 5 (.c t22_20)) []
  H fun t23_21 H => run S (.eqv (.agg [.int, .int, .int, .bool, .str]) true (.c t19_19) (.c t23_21)) [] H fun t24_22 H => jn (blk 1 Q15) fun Q23 => cnd t24_22 (fun Q24
  => Q24 .ret (upd (upd (upd (upd (upd (upd (upd (upd (upd (upd (upd (upd e14 15 (e14 13)) 5 (e14 13)) 16 (e14 0)) 17 (e14 13)) 18 t18_18) 19 t19_19) 20 (e14 1)) 21 (e14
  13)) 22 t22_20) 23 t23_21) 24 t24_22) 4 (.bool false)) H) (fun Q25 => Q25 .normal (upd (upd (upd (upd (upd (upd (upd (upd (upd (upd (upd e14 15 (e14 13)) 5 (e14 13))
  16 (e14 0)) 17 (e14 13)) 18 t18_18) 19 t19_19) 20 (e14 1)) 21 (e14 13)) 22 t22_20) 23 t23_21) 24 t24_22) H) Q23) Q) fun Q13 => cnd t14_12 (fun Q26 => Q26 .normal (upd
  e 14 t14_12) H) (fun Q27 => Q27 (.exit 0) (upd e 14 t14_12) H) Q13
theorem h19_0 (S : Sys) (e : Fe) (H : Heap) (Q : Kx) : wpC S b19_0 e H Q = s19_0 S e H Q := by kernel_rfl
theorem l19_0 (S : Sys) {Q : Kx} (I : Nat → Fe → Heap → Prop) (d : Nat) {e0 : Fe} {H : Heap} (h0 : I d e0 H) (hr : ∀ (d : Nat) (e : Fe) (H : Heap), I d e H → s19_0 S e H
  (sq (fun e' H' => ∃ d', d' < d ∧ I d' e' H') Q)) : WL S b19_0 e0 H Q := WL_inv I d h0 fun d e H hi => (h19_0 S e H _).mpr (hr d e H hi)
theorem u19_0 (S : Sys) {Q : Kx} {e : Fe} {H : Heap} (h : s19_0 S e H (sq (fun e' H' => WL S b19_0 e' H' Q) Q)) : WL S b19_0 e H Q := WL_once ((h19_0 S e H _).mpr h)
def s19 (S : Sys) (a0 a1 : Value) (H : Heap) (R : Kv) : Prop := run S (.lenL (.c a0)) [] H fun t7_1 H => run S (.lenL (.c a1)) [] H fun t9_2 H => run S (.bin .neq (.c
  t7_1) (.c t9_2)) [] H fun t10_3 H => jn (sq (fun e5 H => run S (.lenL (.c (e5 0))) [] H fun t12_6 H => jn (sq (fun e8 H => R (.bool true) H) (fn [(.t 4)] R)) fun Q7 =>
  jn (blk 0 Q7) fun Q9 => WL S b19_0 (upd (upd (upd e5 11 (e5 0)) 12 t12_6) 13 (.int .i64 0)) H Q9) (fn [(.t 4)] R)) fun Q4 => cnd t10_3 (fun Q10 => Q10 .ret (upd (upd
  (upd (upd (upd (upd (upd (Env.get [a0, a1]) 4 (.bool false)) 6 a0) 7 t7_1) 8 a1) 9 t9_2) 10 t10_3) 4 (.bool false)) H) (fun Q11 => Q11 .normal (upd (upd (upd (upd (upd
  (upd (Env.get [a0, a1]) 4 (.bool false)) 6 a0) 7 t7_1) 8 a1) 9 t9_2) 10 t10_3) H) Q4
theorem h19 (S : Sys) (a0 a1 : Value) (H : Heap) (R : Kv) : wpC S k19.body (Env.get [a0, a1]) H (fn [(.t 4)] R) = s19 S a0 a1 H R := by kernel_rfl
theorem w19 {S : Sys} (hR : S.R 19 = none) (hF : S.F 19 = some k19) (a0 a1 : Value) {H : Heap} {R : Kv} (h : s19 S a0 a1 H R) : Wf S 19 [a0, a1] H R := Wf_sh hR hF ((h19
  S a0 a1 H R).mpr h)
def s20 (S : Sys) (a0 : Value) (H : Heap) (R : Kv) : Prop := run S (.alloc 25 [(.int .i64 0), (.int .i64 0), (.int .i64 0), (.bool false), (.string (bs []))]) [] H fun
  t2_1 H => run S (.alloc 25 [(.int .i64 0), (.int .i64 0), (.int .i64 0), (.bool false), (.string (bs []))]) [] H fun t4_2 H => run S (.lenS (.c a0)) [] H fun t11_3 H
  => run S (.bin .lss (.c t11_3) (.c (.int .i64 2))) [] H fun t12_4 H => gd t12_4 false (run S (.mv (.c a0)) [] H) H fun t14_5 H => gd t12_4 false (run S (.idS (.c
  t14_5) (.c (.int .i64 0))) [] H) H fun t15_6 H => gd t12_4 false (run S (.bin .geq (.c t15_6) (.c (.int .u8 32))) [] H) H fun t16_7 H => run S (.pick (.c t12_4) (.c
  (.bool true)) (.c t16_7)) [] H fun t17_8 H => jn (sq (fun e10 H => run S (.slS (.c (e10 0)) (some (.c (.int .i64 2))) none) [] H fun t21_11 H => run S (.call 58 [(.c
  t21_11)]) [] H fun t22_12 H => run S (.xt (.c t22_12) 0) [] H fun t23_13 H => run S (.xt (.c t22_12) 1) [] H fun t24_14 H => run S (.bin .eql (.c t24_14) (.c (.int
  .i64 0))) [] H fun t26_15 H => gd t26_15 false (run S (.mv (.c t23_13)) [] H) H fun t28_16 H => gd t26_15 false (run S (.bin .gtr (.c t28_16) (.c (.int .u64
  1073741824))) [] H) H fun t29_17 H => run S (.pick (.c t26_15) (.c (.bool true)) (.c t29_17)) [] H fun t30_18 H => jn (sq (fun e20 H => run S (.bin .add (.c (.int .i64
  2)) (.c (e20 6))) [] H fun t35_21 H => run S (.slS (.c (e20 0)) (some (.c t35_21)) none) [] H fun t36_22 H => run S (.call 58 [(.c t36_22)]) [] H fun t37_23 H => run S
  (.xt (.c t37_23) 0) [] H fun t38_24 H => run S (.xt (.c t37_23) 1) [] H fun t39_25 H => run S (.bin .add (.c (.int .i64 2)) (.c (e20 6))) [] H fun t41_26 H => run S
  (.bin .add (.c t41_26) (.c t39_25)) [] H fun t43_27 H => run S (.bin .eql (.c t39_25) (.c (.int .i64 0))) [] H fun t45_28 H => gd t45_28 false (run S (.mv (.c t38_24))
  [] H) H fun t47_29 H => gd t45_28 false (run S (.bin .gtr (.c t47_29) (.c (.int .u64 600))) [] H) H fun t48_30 H => run S (.pick (.c t45_28) (.c (.bool true)) (.c
  t48_30)) [] H fun t49_31 H => gd t49_31 false (run S (.mv (.c t38_24)) [] H) H fun t51_32 H => gd t49_31 false (run S (.mv (.c (e20 0))) [] H) H fun t52_33 H => gd
  t49_31 false (run S (.lenS (.c t52_33)) [] H) H fun t53_34 H => gd t49_31 false (run S (.mv (.c t43_27)) [] H) H fun t54_35 H => gd t49_31 false (run S (.bin .sub (.c
  t53_34) (.c t54_35)) [] H) H fun t55_36 H => gd t49_31 false (run S (.cvt .u64 (.c t55_36)) [] H) H fun t56_37 H => gd t49_31 false (run S (.bin .gtr (.c t51_32) (.c
  t56_37)) [] H) H fun t57_38 H => run S (.pick (.c t49_31) (.c (.bool true)) (.c t57_38)) [] H fun t58_39 H => jn (sq (fun e41 H => run S (.idS (.c (e41 0)) (.c (.int
  .i64 0))) [] H fun t61_42 H => run S (.cvt .i64 (.c t61_42)) [] H fun t62_43 H => run S (.bin .rem (.c t62_43) (.c (.int .i64 16))) [] H fun t63_44 H => run S (.idS
  (.c (e41 0)) (.c (.int .i64 0))) [] H fun t65_45 H => run S (.bin .geq (.c t65_45) (.c (.int .u8 16))) [] H fun t66_46 H => run S (.idS (.c (e41 0)) (.c (.int .i64
  1))) [] H fun t68_47 H => run S (.cvt .i64 (.c t68_47)) [] H fun t69_48 H => run S (.cvt .i64 (.c (e41 5))) [] H fun t71_49 H => run S (.cvt .i64 (.c (e41 7))) [] H
  fun t76_50 H => run S (.bin .add (.c (e41 9)) (.c t76_50)) [] H fun t77_51 H => run S (.slS (.c (e41 0)) (some (.c (e41 9))) (some (.c t77_51))) [] H fun t78_52 H =>
  run S (.build [(.int .i64 0), (.int .i64 0), (.int .i64 0), (.bool false), (.string (bs []))] [(0, (1, (.c t63_44))), (3, (1, (.c t66_46))), (1, (1, (.c t69_48))), (2,
  (1, (.c t71_49))), (4, (1, (.c t78_52)))]) [] H fun t79_53 H => run S (.stn 5 (.c (e41 4)) (.c t79_53)) [] H fun _ H => run S (.ldn 5 (.c (e41 4))) [] H fun t80_54 H
  => run S (.call 15 [(.c t80_54)]) [] H fun t81_55 H => run S (.un .not (.c t81_55)) [] H fun t82_56 H => jn (sq (fun e58 H => run S (.ldn 5 (.c (e58 4))) [] H fun
  t84_59 H => run S (.cvt .i64 (.c (e58 7))) [] H fun t87_60 H => run S (.bin .add (.c (e58 9)) (.c t87_60)) [] H fun t88_61 H => run S (.stn 5 (.c (e58 2)) (.c t84_59))
  [] H fun _ H => (fn [(.cn 2 5), (.t 3)] R) .ret (upd (upd (upd (upd (upd (upd e58 84 t84_59) 85 (e58 9)) 86 (e58 7)) 87 t87_60) 88 t88_61) 3 t88_61) H) (fn [(.cn 2 5),
  (.t 3)] R)) fun Q57 => cnd t82_56 (fun Q62 => run S (.build [(.int .i64 0), (.int .i64 0), (.int .i64 0), (.bool false), (.string (bs []))] []) [] H fun t83_64 H =>
  run S (.stn 5 (.c (e41 2)) (.c t83_64)) [] H fun _ H => Q62 .ret (upd (upd (upd (upd (upd (upd (upd (upd (upd (upd (upd (upd (upd (upd (upd (upd (upd (upd (upd (upd
  (upd (upd (upd (upd (upd e41 60 (e41 0)) 61 t61_42) 62 t62_43) 63 t63_44) 64 (e41 0)) 65 t65_45) 66 t66_46) 67 (e41 0)) 68 t68_47) 69 t69_48) 70 (e41 5)) 71 t71_49) 72
  (e41 0)) 73 (e41 9)) 74 (e41 9)) 75 (e41 7)) 76 t76_50) 77 t77_51) 78 t78_52) 79 t79_53) 80 t80_54) 81 t81_55) 82 t82_56) 83 t83_64) 3 (.int .i64 0)) H) (fun Q63 =>
  Q63 .normal (upd (upd (upd (upd (upd (upd (upd (upd (upd (upd (upd (upd (upd (upd (upd (upd (upd (upd (upd (upd (upd (upd (upd e41 60 (e41 0)) 61 t61_42) 62 t62_43) 63
  t63_44) 64 (e41 0)) 65 t65_45) 66 t66_46) 67 (e41 0)) 68 t68_47) 69 t69_48) 70 (e41 5)) 71 t71_49) 72 (e41 0)) 73 (e41 9)) 74 (e41 9)) 75 (e41 7)) 76 t76_50) 77
  t77_51) 78 t78_52) 79 t79_53) 80 t80_54) 81 t81_55) 82 t82_56) H) Q57) (fn [(.cn 2 5), (.t 3)] R)) fun Q40 => cnd t58_39 (fun Q65 => run S (.ldn 5 (.c (e20 4))) [] H
  fun t59_67 H => run S (.stn 5 (.c (e20 2)) (.c t59_67)) [] H fun _ H => Q65 .ret (upd (upd (upd (upd (upd (upd (upd (upd (upd (upd (upd (upd (upd (upd (upd (upd (upd
  (upd (upd (upd (upd (upd (upd (upd (upd (upd (upd (upd (upd (upd (upd (upd e20 33 (e20 0)) 34 (e20 6)) 35 t35_21) 36 t36_22) 37 t37_23) 32 t37_23) 38 t38_24) 39
  t39_25) 7 t38_24) 8 t39_25) 40 (e20 6)) 41 t41_26) 42 t39_25) 43 t43_27) 9 t43_27) 44 t39_25) 45 t45_28) 46 t45_28) 47 t47_29) 48 t48_30) 49 t49_31) 50 t49_31) 51
  t51_32) 52 t52_33) 53 t53_34) 54 t54_35) 55 t55_36) 56 t56_37) 57 t57_38) 58 t58_39) 59 t59_67) 3 (.int .i64 0)) H) (fun Q66 => Q66 .normal (upd (upd (upd (upd (upd
  (upd (upd (upd (upd (upd (upd (upd (upd (upd (upd (upd (upd (upd (upd (upd (upd (upd (upd (upd (upd (upd (upd (upd (upd (upd e20 33 (e20 0)) 34 (e20 6)) 35 t35_21) 36
  t36_22) 37 t37_23) 32 t37_23) 38 t38_24) 39 t39_25) 7 t38_24) 8 t39_25) 40 (e20 6)) 41 t41_26) 42 t39_25) 43 t43_27) 9 t43_27) 44 t39_25) 45 t45_28) 46 t45_28) 47
  t47_29) 48 t48_30) 49 t49_31) 50 t49_31) 51 t51_32) 52 t52_33) 53 t53_34) 54 t54_35) 55 t55_36) 56 t56_37) 57 t57_38) 58 t58_39) H) Q40) (fn [(.cn 2 5), (.t 3)] R))
  fun Q19 => cnd t30_18 (fun Q68 => run S (.ldn 5 (.c (e10 4))) [] H fun t31_70 H => run S (.stn 5 (.c (e10 2)) (.c t31_70)) [] H fun _ H => Q68 .ret (upd (upd (upd (upd
  (upd (upd (upd (upd (upd (upd (upd (upd (upd (upd (upd (upd e10 20 (e10 0)) 21 t21_11) 22 t22_12) 19 t22_12) 23 t23_13) 24 t24_14) 5 t23_13) 6 t24_14) 25 t24_14) 26
  t26_15) 27 t26_15) 28 t28_16) 29 t29_17) 30 t30_18) 31 t31_70) 3 (.int .i64 0)) H) (fun Q69 => Q69 .normal (upd (upd (upd (upd (upd (upd (upd (upd (upd (upd (upd (upd
  (upd (upd e10 20 (e10 0)) 21 t21_11) 22 t22_12) 19 t22_12) 23 t23_13) 24 t24_14) 5 t23_13) 6 t24_14) 25 t24_14) 26 t26_15) 27 t26_15) 28 t28_16) 29 t29_17) 30 t30_18)
  H) Q19) (fn [(.cn 2 5), (.t 3)] R)) fun Q9 => cnd t17_8 (fun Q71 => run S (.ldn 5 (.c t4_2)) [] H fun t18_73 H => run S (.stn 5 (.c t2_1) (.c t18_73)) [] H fun _ H =>
  Q71 .ret (upd (upd (upd (upd (upd (upd (upd (upd (upd (upd (upd (upd (upd (Env.get [a0]) 2 t2_1) 3 (.int .i64 0)) 4 t4_2) 10 a0) 11 t11_3) 12 t12_4) 13 t12_4) 14
  t14_5) 15 t15_6) 16 t16_7) 17 t17_8) 18 t18_73) 3 (.int .i64 0)) H) (fun Q72 => Q72 .normal (upd (upd (upd (upd (upd (upd (upd (upd (upd (upd (upd (Env.get [a0]) 2
  t2_1) 3 (.int .i64 0)) 4 t4_2) 10 a0) 11 t11_3) 12 t12_4) 13 t12_4) 14 t14_5) 15 t15_6) 16 t16_7) 17 t17_8) H) Q9
theorem h20 (S : Sys) (a0 : Value) (H : Heap) (R : Kv) : wpC S k20.body (Env.get [a0]) H (fn [(.cn 2 5), (.t 3)] R) = s20 S a0 H R := by kernel_rfl
theorem w20 {S : Sys} (hR : S.R 20 = none) (hF : S.F 20 = some k20) (a0 : Value) {H : Heap} {R : Kv} (h : s20 S a0 H R) : Wf S 20 [a0] H R := Wf_sh hR hF ((h20 S a0 H
  R).mpr h)
end Go.Proofs.Ytlboioplemlneaa.K
