/- The functions as nested words with named values, each held against its code by the kernel. Printed by a program of this work (sh.py). -/
import Derived.Test.YtlboioplemlneaaGreatKLowSh2
set_option maxRecDepth 100000
set_option linter.unusedVariables false
namespace Go.Proofs.YtlboioplemlneaaGreat.K
open Go Go.Proofs
def s30 (S : Sys) (a0 : Value) (H : Heap) (R : Kv) : Prop := run S (.call 52 [(.c a0)]) [] H fun t9_1 H => run S (.un .not (.c t9_1)) [] H fun t10_2 H => jn (sq (fun e4
  H => run S (.call 53 [(.c (e4 0))]) [] H fun t13_5 H => run S (.xt (.c t13_5) 0) [] H fun t14_6 H => run S (.xt (.c t13_5) 1) [] H fun t15_7 H => run S (.lenL (.c (e4
  0))) [] H fun t17_8 H => run S (.mks 3 [(.int .i64 0)] 8 (.c t17_8) (.c t17_8)) [] H fun t18_9 H => run S (.alloc 42 [(.slice none 0 0)]) [] H fun t6_10 H => run S
  (.st (.c t6_10) (.c t18_9)) [] H fun _ H => run S (.nck (.c t14_6)) [] H fun t20_11 H => run S (.fad 2 (.c t20_11)) [] H fun t21_12 H => run S (.ld (.c t21_12)) [] H
  fun t22_13 H => run S (.bin .geq (.c t22_13) (.c (.int .i64 0))) [] H fun t23_14 H => jn (sq (fun e16 H => run S (.alloc 3 [(.int .i64 0)]) [] H fun t7_17 H => run S
  (.st (.c t7_17) (.c (.int .i64 0))) [] H fun _ H => run S (.mkf (.func 55) [] [(.c (e16 6)), (.c t7_17)]) [] H fun t32_18 H => run S (.call 54 [(.c (e16 4)), (.c (.int
  .i64 0)), (.c t32_18)]) [] H fun t33_19 H => run S (.ld (.c t7_17)) [] H fun t34_20 H => run S (.bin .gtr (.c t34_20) (.c (.int .i64 11))) [] H fun t35_21 H => jn (sq
  (fun e23 H => run S (.ld (.c (e23 6))) [] H fun t38_24 H => R (tup [t38_24, (.bool true)]) H) (fn [(.t 2), (.t 3)] R)) fun Q22 => cnd t35_21 (fun Q25 => run S (.call
  56 [(.c (e16 0))]) [] H fun t37_27 H => Q25 .ret (upd (upd (upd (upd (upd (upd (upd (upd (upd (upd e16 7 t7_17) 31 (e16 4)) 32 t32_18) 33 t33_19) 34 t34_20) 35 t35_21)
  36 (e16 0)) 37 t37_27) 2 t37_27) 3 (.bool true)) H) (fun Q26 => Q26 .normal (upd (upd (upd (upd (upd (upd e16 7 t7_17) 31 (e16 4)) 32 t32_18) 33 t33_19) 34 t34_20) 35
  t35_21) H) Q22) (fn [(.t 2), (.t 3)] R)) fun Q15 => cnd t23_14 (fun Q28 => run S (.ld (.c t6_10)) [] H fun t24_30 H => run S (.nck (.c t14_6)) [] H fun t26_31 H => run
  S (.fad 2 (.c t26_31)) [] H fun t27_32 H => run S (.ld (.c t27_32)) [] H fun t28_33 H => run S (.iad 1 (.c t24_30) (.c t28_33)) [] H fun t29_34 H => run S (.st (.c
  t29_34) (.c (.int .i64 1))) [] H fun _ H => run S (.ld (.c t6_10)) [] H fun t30_35 H => Q28 .ret (upd (upd (upd (upd (upd (upd (upd (upd (upd (upd (upd (upd (upd (upd
  (upd (upd (upd (upd (upd (upd (upd (upd (upd (upd (upd e4 12 (e4 0)) 13 t13_5) 11 t13_5) 14 t14_6) 15 t15_7) 4 t14_6) 5 t15_7) 16 (e4 0)) 17 t17_8) 18 t18_9) 6 t6_10)
  19 t14_6) 20 t20_11) 21 t21_12) 22 t22_13) 23 t23_14) 24 t24_30) 25 t14_6) 26 t26_31) 27 t27_32) 28 t28_33) 29 t29_34) 30 t30_35) 2 t30_35) 3 (.bool true)) H) (fun Q29
  => Q29 .normal (upd (upd (upd (upd (upd (upd (upd (upd (upd (upd (upd (upd (upd (upd (upd (upd e4 12 (e4 0)) 13 t13_5) 11 t13_5) 14 t14_6) 15 t15_7) 4 t14_6) 5 t15_7)
  16 (e4 0)) 17 t17_8) 18 t18_9) 6 t6_10) 19 t14_6) 20 t20_11) 21 t21_12) 22 t22_13) 23 t23_14) H) Q15) (fn [(.t 2), (.t 3)] R)) fun Q3 => cnd t10_2 (fun Q36 => Q36 .ret
  (upd (upd (upd (upd (upd (upd (upd (Env.get [a0]) 2 (.slice none 0 0)) 3 (.bool false)) 8 a0) 9 t9_1) 10 t10_2) 2 (.slice none 0 0)) 3 (.bool false)) H) (fun Q37 =>
  Q37 .normal (upd (upd (upd (upd (upd (Env.get [a0]) 2 (.slice none 0 0)) 3 (.bool false)) 8 a0) 9 t9_1) 10 t10_2) H) Q3
theorem h30 (S : Sys) (a0 : Value) (H : Heap) (R : Kv) : wpC S k30.body (Env.get [a0]) H (fn [(.t 2), (.t 3)] R) = s30 S a0 H R := by kernel_rfl
theorem w30 {S : Sys} (hR : S.R 30 = none) (hF : S.F 30 = some k30) (a0 : Value) {H : Heap} {R : Kv} (h : s30 S a0 H R) : Wf S 30 [a0] H R := Wf_sh hR hF ((h30 S a0 H
  R).mpr h)
def b31_1 : KCode := (.seq (.seq (.reg [(.op (some 12) none (.mv (.t 3))), (.op (some 13) none (.lenL (.t 12))), (.op (some 14) none (.mv (.t 5))), (.op (some 15) none
  (.cvt .i64 (.t 14))), (.op (some 16) none (.bin .leq (.t 13) (.t 15)))]) (.cond (.t 16) .skip (.exit 2))) (.block 3 (.reg [(.op (some 17) none (.mv (.t 3))), (.op
  (some 18) none (.bsl 3 1 [(.int .i64 0)] [(0, (1, (.c (.int .i64 0))))])), (.op (some 19) none (.app 3 1 8 (.t 17) (.t 18))), (.op (some 3) none (.mv (.t 19)))])))
def s31_1 (S : Sys) (e : Fe) (H : Heap) (Q : Kx) : Prop := run S (.lenL (.c (e 3))) [] H fun t13_23 H => run S (.cvt .i64 (.c (e 5))) [] H fun t15_24 H => run S (.bin
  .leq (.c t13_23) (.c t15_24)) [] H fun t16_25 H => jn (sq (fun e27 H => run S (.bsl 3 1 [(.int .i64 0)] [(0, (1, (.c (.int .i64 0))))]) [] H fun t18_28 H => run S
  (.app 3 1 8 (.c (e27 3)) (.c t18_28)) [] H fun t19_29 H => Q .normal (upd (upd (upd (upd e27 17 (e27 3)) 18 t18_28) 19 t19_29) 3 t19_29) H) Q) fun Q26 => cnd t16_25
  (fun Q30 => Q30 .normal (upd (upd (upd (upd (upd e 12 (e 3)) 13 t13_23) 14 (e 5)) 15 t15_24) 16 t16_25) H) (fun Q31 => Q31 (.exit 2) (upd (upd (upd (upd (upd e 12 (e
  3)) 13 t13_23) 14 (e 5)) 15 t15_24) 16 t16_25) H) Q26
theorem h31_1 (S : Sys) (e : Fe) (H : Heap) (Q : Kx) : wpC S b31_1 e H Q = s31_1 S e H Q := by kernel_rfl
theorem l31_1 (S : Sys) {Q : Kx} (I : Nat → Fe → Heap → Prop) (d : Nat) {e0 : Fe} {H : Heap} (h0 : I d e0 H) (hr : ∀ (d : Nat) (e : Fe) (H : Heap), I d e H → s31_1 S e H
  (sq (fun e' H' => ∃ d', d' < d ∧ I d' e' H') Q)) : WL S b31_1 e0 H Q := WL_inv I d h0 fun d e H hi => (h31_1 S e H _).mpr (hr d e H hi)
theorem u31_1 (S : Sys) {Q : Kx} {e : Fe} {H : Heap} (h : s31_1 S e H (sq (fun e' H' => WL S b31_1 e' H' Q) Q)) : WL S b31_1 e H Q := WL_once ((h31_1 S e H _).mpr h)
def b31_0 : KCode := (.seq (.reg [(.op (some 9) none (.bin .lss (.t 8) (.t 7)))]) (.seq (.cond (.t 9) .skip (.exit 0)) (.seq (.block 1 (.seq (.reg [(.op (some 10) none
  (.iad 1 (.t 6) (.t 8))), (.op (some 11) none (.ld (.t 10))), (.op (some 5) none (.mv (.t 11)))]) (.seq (.block 2 (.loop (.seq (.seq (.reg [(.op (some 12) none (.mv (.t
  3))), (.op (some 13) none (.lenL (.t 12))), (.op (some 14) none (.mv (.t 5))), (.op (some 15) none (.cvt .i64 (.t 14))), (.op (some 16) none (.bin .leq (.t 13) (.t
  15)))]) (.cond (.t 16) .skip (.exit 2))) (.block 3 (.reg [(.op (some 17) none (.mv (.t 3))), (.op (some 18) none (.bsl 3 1 [(.int .i64 0)] [(0, (1, (.c (.int .i64
  0))))])), (.op (some 19) none (.app 3 1 8 (.t 17) (.t 18))), (.op (some 3) none (.mv (.t 19)))]))))) (.reg [(.op (some 20) none (.mv (.t 3))), (.op (some 21) none (.mv
  (.t 5))), (.op (some 22) none (.iad 1 (.t 20) (.t 21))), (.op (some 23) none (.ld (.t 22))), (.op (some 24) none (.bin .add (.t 23) (.c (.int .i64 1)))), (.op (some
  25) none (.iad 1 (.t 20) (.t 21))), (.op none none (.st (.t 25) (.t 24)))])))) (.reg [(.op (some 26) none (.bin .add (.t 8) (.c (.int .i64 1)))), (.op (some 8) none
  (.mv (.t 26)))]))))
def s31_0 (S : Sys) (e : Fe) (H : Heap) (Q : Kx) : Prop := run S (.bin .lss (.c (e 8)) (.c (e 7))) [] H fun t9_5 H => jn (sq (fun e7 H => jn (sq (fun e9 H => run S (.bin
  .add (.c (e9 8)) (.c (.int .i64 1))) [] H fun t26_10 H => Q .normal (upd (upd e9 26 t26_10) 8 t26_10) H) Q) fun Q8 => run S (.iad 1 (.c (e7 6)) (.c (e7 8))) [] H fun
  t10_11 H => run S (.ld (.c t10_11)) [] H fun t11_12 H => jn (blk 1 Q8) fun Q13 => jn (sq (fun e15 H => run S (.iad 1 (.c (e15 3)) (.c (e15 5))) [] H fun t22_16 H =>
  run S (.ld (.c t22_16)) [] H fun t23_17 H => run S (.bin .add (.c t23_17) (.c (.int .i64 1))) [] H fun t24_18 H => run S (.iad 1 (.c (e15 3)) (.c (e15 5))) [] H fun
  t25_19 H => run S (.st (.c t25_19) (.c t24_18)) [] H fun _ H => Q13 .normal (upd (upd (upd (upd (upd (upd e15 20 (e15 3)) 21 (e15 5)) 22 t22_16) 23 t23_17) 24 t24_18)
  25 t25_19) H) Q13) fun Q14 => jn (blk 2 Q14) fun Q20 => WL S b31_1 (upd (upd (upd e7 10 t10_11) 11 t11_12) 5 t11_12) H Q20) Q) fun Q6 => cnd t9_5 (fun Q21 => Q21
  .normal (upd e 9 t9_5) H) (fun Q22 => Q22 (.exit 0) (upd e 9 t9_5) H) Q6
theorem h31_0 (S : Sys) (e : Fe) (H : Heap) (Q : Kx) : wpC S b31_0 e H Q = s31_0 S e H Q := by kernel_rfl
theorem l31_0 (S : Sys) {Q : Kx} (I : Nat → Fe → Heap → Prop) (d : Nat) {e0 : Fe} {H : Heap} (h0 : I d e0 H) (hr : ∀ (d : Nat) (e : Fe) (H : Heap), I d e H → s31_0 S e H
  (sq (fun e' H' => ∃ d', d' < d ∧ I d' e' H') Q)) : WL S b31_0 e0 H Q := WL_inv I d h0 fun d e H hi => (h31_0 S e H _).mpr (hr d e H hi)
theorem u31_0 (S : Sys) {Q : Kx} {e : Fe} {H : Heap} (h : s31_0 S e H (sq (fun e' H' => WL S b31_0 e' H' Q) Q)) : WL S b31_0 e H Q := WL_once ((h31_0 S e H _).mpr h)
def s31 (S : Sys) (a0 : Value) (H : Heap) (R : Kv) : Prop := run S (.lenL (.c a0)) [] H fun t7_1 H => jn (sq (fun e3 H => R (e3 3) H) (fn [(.t 2)] R)) fun Q2 => jn (blk
  0 Q2) fun Q4 => WL S b31_0 (upd (upd (upd (upd (upd (Env.get [a0]) 2 (.slice none 0 0)) 3 (.slice none 0 0)) 6 a0) 7 t7_1) 8 (.int .i64 0)) H Q4
theorem h31 (S : Sys) (a0 : Value) (H : Heap) (R : Kv) : wpC S k31.body (Env.get [a0]) H (fn [(.t 2)] R) = s31 S a0 H R := by kernel_rfl
theorem w31 {S : Sys} (hR : S.R 31 = none) (hF : S.F 31 = some k31) (a0 : Value) {H : Heap} {R : Kv} (h : s31 S a0 H R) : Wf S 31 [a0] H R := Wf_sh hR hF ((h31 S a0 H
  R).mpr h)
def b52_0 : KCode := (.seq (.reg [(.op (some 11) none (.bin .lss (.t 10) (.t 9)))]) (.seq (.cond (.t 11) .skip (.exit 0)) (.seq (.block 1 (.seq (.reg [(.op (some 12)
  none (.iad 1 (.t 8) (.t 10))), (.op (some 13) none (.ld (.t 12))), (.op (some 4) none (.mv (.t 13)))]) (.seq (.reg [(.op (some 14) none (.mv (.t 4))), (.op (some 15)
  none (.bin .lss (.t 14) (.c (.int .i64 0)))), (.op (some 16) none (.mv (.t 15))), (.op (some 17) (some (16, false)) (.mv (.t 4))), (.op (some 18) (some (16, false))
  (.bin .gtr (.t 17) (.c (.int .i64 1048576)))), (.op (some 19) none (.pick (.t 16) (.c (.bool true)) (.t 18)))]) (.cond (.t 19) (.seq (.reg [(.op (some 2) none (.mv (.c
  (.bool false))))]) .ret) .skip)))) (.reg [(.op (some 20) none (.bin .add (.t 10) (.c (.int .i64 1)))), (.op (some 10) none (.mv (.t 20)))]))))
def s52_0 (S : Sys) (e : Fe) (H : Heap) (Q : Kx) : Prop := run S (.bin .lss (.c (e 10)) (.c (e 9))) [] H fun t11_13 H => jn (sq (fun e15 H => jn (sq (fun e17 H => run S
  (.bin .add (.c (e17 10)) (.c (.int .i64 1))) [] H fun t20_18 H => Q .normal (upd (upd e17 20 t20_18) 10 t20_18) H) Q) fun Q16 => run S (.iad 1 (.c (e15 8)) (.c (e15
  10))) [] H fun t12_19 H => run S (.ld (.c t12_19)) [] H fun t13_20 H => run S (.bin .lss (.c t13_20) (.c (.int .i64 0))) [] H fun t15_21 H => gd t15_21 false (run S
  (.mv (.c t13_20)) [] H) H fun t17_22 H => gd t15_21 false (run S (.bin .gtr (.c t17_22) (.c (.int .i64 1048576))) [] H) H fun t18_23 H => run S (.pick (.c t15_21) (.c
  (.bool true)) (.c t18_23)) [] H fun t19_24 H => jn (blk 1 Q16) fun Q25 => cnd t19_24 (fun Q26 => Q26 .ret (upd (upd (upd (upd (upd (upd (upd (upd (upd (upd e15 12
  t12_19) 13 t13_20) 4 t13_20) 14 t13_20) 15 t15_21) 16 t15_21) 17 t17_22) 18 t18_23) 19 t19_24) 2 (.bool false)) H) (fun Q27 => Q27 .normal (upd (upd (upd (upd (upd
  (upd (upd (upd (upd e15 12 t12_19) 13 t13_20) 4 t13_20) 14 t13_20) 15 t15_21) 16 t15_21) 17 t17_22) 18 t18_23) 19 t19_24) H) Q25) Q) fun Q14 => cnd t11_13 (fun Q28 =>
  Q28 .normal (upd e 11 t11_13) H) (fun Q29 => Q29 (.exit 0) (upd e 11 t11_13) H) Q14
theorem h52_0 (S : Sys) (e : Fe) (H : Heap) (Q : Kx) : wpC S b52_0 e H Q = s52_0 S e H Q := by kernel_rfl
theorem l52_0 (S : Sys) {Q : Kx} (I : Nat → Fe → Heap → Prop) (d : Nat) {e0 : Fe} {H : Heap} (h0 : I d e0 H) (hr : ∀ (d : Nat) (e : Fe) (H : Heap), I d e H → s52_0 S e H
  (sq (fun e' H' => ∃ d', d' < d ∧ I d' e' H') Q)) : WL S b52_0 e0 H Q := WL_inv I d h0 fun d e H hi => (h52_0 S e H _).mpr (hr d e H hi)
theorem u52_0 (S : Sys) {Q : Kx} {e : Fe} {H : Heap} (h : s52_0 S e H (sq (fun e' H' => WL S b52_0 e' H' Q) Q)) : WL S b52_0 e H Q := WL_once ((h52_0 S e H _).mpr h)
def s52 (S : Sys) (a0 : Value) (H : Heap) (R : Kv) : Prop := run S (.lenL (.c a0)) [] H fun t6_1 H => run S (.bin .gtr (.c t6_1) (.c (.int .i64 256))) [] H fun t7_2 H =>
  jn (sq (fun e4 H => run S (.lenL (.c (e4 0))) [] H fun t9_5 H => jn (sq (fun e7 H => run S (.call 78 [(.c (e7 0))]) [] H fun t22_8 H => run S (.bin .gtr (.c t22_8) (.c
  (.int .i64 0))) [] H fun t23_9 H => R t23_9 H) (fn [(.t 2)] R)) fun Q6 => jn (blk 0 Q6) fun Q10 => WL S b52_0 (upd (upd (upd e4 8 (e4 0)) 9 t9_5) 10 (.int .i64 0)) H
  Q10) (fn [(.t 2)] R)) fun Q3 => cnd t7_2 (fun Q11 => Q11 .ret (upd (upd (upd (upd (upd (Env.get [a0]) 2 (.bool false)) 5 a0) 6 t6_1) 7 t7_2) 2 (.bool false)) H) (fun
  Q12 => Q12 .normal (upd (upd (upd (upd (Env.get [a0]) 2 (.bool false)) 5 a0) 6 t6_1) 7 t7_2) H) Q3
theorem h52 (S : Sys) (a0 : Value) (H : Heap) (R : Kv) : wpC S k52.body (Env.get [a0]) H (fn [(.t 2)] R) = s52 S a0 H R := by kernel_rfl
theorem w52 {S : Sys} (hR : S.R 52 = none) (hF : S.F 52 = some k52) (a0 : Value) {H : Heap} {R : Kv} (h : s52 S a0 H R) : Wf S 52 [a0] H R := Wf_sh hR hF ((h52 S a0 H
  R).mpr h)
def b53_1 : KCode := (.seq (.reg [(.op (some 17) none (.bin .lss (.t 16) (.t 15)))]) (.seq (.cond (.t 17) .skip (.exit 0)) (.seq (.block 1 (.seq (.reg [(.op (some 18)
  none (.mv (.t 16))), (.op (some 19) none (.iad 1 (.t 14) (.t 16))), (.op (some 20) none (.ld (.t 19))), (.op (some 5) none (.mv (.t 18))), (.op (some 6) none (.mv (.t
  20)))]) (.seq (.reg [(.op (some 21) none (.mv (.t 6))), (.op (some 22) none (.bin .gtr (.t 21) (.c (.int .i64 0))))]) (.cond (.t 22) (.reg [(.op (some 23) none (.mv
  (.t 4))), (.op (some 24) none (.mv (.t 4))), (.op (some 25) none (.nck (.t 24))), (.op (some 26) none (.ld (.t 25))), (.op (some 27) none (.mv (.t 6))), (.op (some 28)
  none (.mv (.t 5))), (.op (some 29) none (.mv (.t 5))), (.op (some 30) none (.build [(.int .i64 0), (.int .i64 0), (.int .i64 0), (.pointer none), (.pointer none)] [(0,
  (1, (.t 27))), (1, (1, (.t 28))), (2, (1, (.t 29)))])), (.op (some 31) none (.box 86 (.t 30))), (.op (some 32) none (.bsl 82 1 [(.pointer none)] [(0, (1, (.t 31)))])),
  (.op (some 33) none (.app 82 1 8 (.t 26) (.t 32))), (.op (some 34) none (.nck (.t 23))), (.op none none (.st (.t 34) (.t 33)))]) .skip)))) (.reg [(.op (some 35) none
  (.bin .add (.t 16) (.c (.int .i64 1)))), (.op (some 16) none (.mv (.t 35)))]))))
def s53_1 (S : Sys) (e : Fe) (H : Heap) (Q : Kx) : Prop := run S (.bin .lss (.c (e 16)) (.c (e 15))) [] H fun t17_42 H => jn (sq (fun e44 H => jn (sq (fun e46 H => run S
  (.bin .add (.c (e46 16)) (.c (.int .i64 1))) [] H fun t35_47 H => Q .normal (upd (upd e46 35 t35_47) 16 t35_47) H) Q) fun Q45 => run S (.iad 1 (.c (e44 14)) (.c (e44
  16))) [] H fun t19_48 H => run S (.ld (.c t19_48)) [] H fun t20_49 H => run S (.bin .gtr (.c t20_49) (.c (.int .i64 0))) [] H fun t22_50 H => jn (blk 1 Q45) fun Q51 =>
  cnd t22_50 (fun Q52 => run S (.nck (.c (e44 4))) [] H fun t25_54 H => run S (.ld (.c t25_54)) [] H fun t26_55 H => run S (.build [(.int .i64 0), (.int .i64 0), (.int
  .i64 0), (.pointer none), (.pointer none)] [(0, (1, (.c t20_49))), (1, (1, (.c (e44 16)))), (2, (1, (.c (e44 16))))]) [] H fun t30_56 H => run S (.box 86 (.c t30_56))
  [] H fun t31_57 H => run S (.bsl 82 1 [(.pointer none)] [(0, (1, (.c t31_57)))]) [] H fun t32_58 H => run S (.app 82 1 8 (.c t26_55) (.c t32_58)) [] H fun t33_59 H =>
  run S (.nck (.c (e44 4))) [] H fun t34_60 H => run S (.st (.c t34_60) (.c t33_59)) [] H fun _ H => Q52 .normal (upd (upd (upd (upd (upd (upd (upd (upd (upd (upd (upd
  (upd (upd (upd (upd (upd (upd (upd (upd e44 18 (e44 16)) 19 t19_48) 20 t20_49) 5 (e44 16)) 6 t20_49) 21 t20_49) 22 t22_50) 23 (e44 4)) 24 (e44 4)) 25 t25_54) 26
  t26_55) 27 t20_49) 28 (e44 16)) 29 (e44 16)) 30 t30_56) 31 t31_57) 32 t32_58) 33 t33_59) 34 t34_60) H) (fun Q53 => Q53 .normal (upd (upd (upd (upd (upd (upd (upd e44
  18 (e44 16)) 19 t19_48) 20 t20_49) 5 (e44 16)) 6 t20_49) 21 t20_49) 22 t22_50) H) Q51) Q) fun Q43 => cnd t17_42 (fun Q61 => Q61 .normal (upd e 17 t17_42) H) (fun Q62
  => Q62 (.exit 0) (upd e 17 t17_42) H) Q43
theorem h53_1 (S : Sys) (e : Fe) (H : Heap) (Q : Kx) : wpC S b53_1 e H Q = s53_1 S e H Q := by kernel_rfl
theorem l53_1 (S : Sys) {Q : Kx} (I : Nat → Fe → Heap → Prop) (d : Nat) {e0 : Fe} {H : Heap} (h0 : I d e0 H) (hr : ∀ (d : Nat) (e : Fe) (H : Heap), I d e H → s53_1 S e H
  (sq (fun e' H' => ∃ d', d' < d ∧ I d' e' H') Q)) : WL S b53_1 e0 H Q := WL_inv I d h0 fun d e H hi => (h53_1 S e H _).mpr (hr d e H hi)
theorem u53_1 (S : Sys) {Q : Kx} {e : Fe} {H : Heap} (h : s53_1 S e H (sq (fun e' H' => WL S b53_1 e' H' Q) Q)) : WL S b53_1 e H Q := WL_once ((h53_1 S e H _).mpr h)
def b53_0 : KCode := (.seq (.seq (.reg [(.op (some 39) none (.mv (.t 4))), (.op (some 40) none (.nck (.t 39))), (.op (some 41) none (.ld (.t 40))), (.op (some 42) none
  (.call 80 [(.t 41)])), (.op (some 43) none (.bin .gtr (.t 42) (.c (.int .i64 1))))]) (.cond (.t 43) .skip (.exit 2))) (.seq (.block 3 (.seq (.reg [(.op (some 46) none
  (.mv (.t 4))), (.op (some 47) none (.call 81 [(.t 46)])), (.op (some 48) none (.mv (.t 4))), (.op (some 49) none (.call 81 [(.t 48)])), (.op (some 9) none (.mv (.t
  47))), (.op (some 10) none (.mv (.t 49)))]) (.seq (.reg [(.op (some 50) none (.mv (.t 9))), (.op (some 51) none (.nck (.t 50))), (.op (some 52) none (.fad 0 (.t 51))),
  (.op (some 53) none (.ld (.t 52))), (.op (some 54) none (.mv (.t 10))), (.op (some 55) none (.nck (.t 54))), (.op (some 56) none (.fad 0 (.t 55))), (.op (some 57) none
  (.ld (.t 56))), (.op (some 58) none (.bin .add (.t 53) (.t 57))), (.op (some 59) none (.mv (.t 8))), (.op (some 60) none (.mv (.t 9))), (.op (some 61) none (.mv (.t
  10))), (.op (some 62) none (.build [(.int .i64 0), (.int .i64 0), (.int .i64 0), (.pointer none), (.pointer none)] [(0, (1, (.t 58))), (1, (1, (.t 59))), (2, (1, (.c
  (.int .i64 (-1))))), (3, (1, (.t 60))), (4, (1, (.t 61)))])), (.op (some 63) none (.box 86 (.t 62))), (.op (some 11) none (.mv (.t 63)))]) (.seq (.reg [(.op (some 64)
  none (.mv (.t 7))), (.op (some 65) none (.mv (.t 11))), (.op (some 66) none (.nck (.t 65))), (.op (some 67) none (.fad 0 (.t 66))), (.op (some 68) none (.ld (.t 67))),
  (.op (some 69) none (.bin .add (.t 64) (.t 68))), (.op (some 7) none (.mv (.t 69)))]) (.reg [(.op (some 70) none (.mv (.t 4))), (.op (some 71) none (.mki 111 (.t
  70))), (.op (some 72) none (.mv (.t 11))), (.op (some 73) none (.mki 82 (.t 72))), (.op (some 74) none (.call 82 [(.t 71), (.t 73)]))]))))) (.reg [(.op (some 44) none
  (.mv (.t 8))), (.op (some 45) none (.bin .add (.t 44) (.c (.int .i64 1)))), (.op (some 8) none (.mv (.t 45)))])))
def s53_0 (S : Sys) (e : Fe) (H : Heap) (Q : Kx) : Prop := run S (.nck (.c (e 4))) [] H fun t40_13 H => run S (.ld (.c t40_13)) [] H fun t41_14 H => run S (.call 80 [(.c
  t41_14)]) [] H fun t42_15 H => run S (.bin .gtr (.c t42_15) (.c (.int .i64 1))) [] H fun t43_16 H => jn (sq (fun e18 H => jn (sq (fun e20 H => run S (.bin .add (.c
  (e20 8)) (.c (.int .i64 1))) [] H fun t45_21 H => Q .normal (upd (upd (upd e20 44 (e20 8)) 45 t45_21) 8 t45_21) H) Q) fun Q19 => run S (.call 81 [(.c (e18 4))]) [] H
  fun t47_22 H => run S (.call 81 [(.c (e18 4))]) [] H fun t49_23 H => run S (.nck (.c t47_22)) [] H fun t51_24 H => run S (.fad 0 (.c t51_24)) [] H fun t52_25 H => run
  S (.ld (.c t52_25)) [] H fun t53_26 H => run S (.nck (.c t49_23)) [] H fun t55_27 H => run S (.fad 0 (.c t55_27)) [] H fun t56_28 H => run S (.ld (.c t56_28)) [] H fun
  t57_29 H => run S (.bin .add (.c t53_26) (.c t57_29)) [] H fun t58_30 H => run S (.build [(.int .i64 0), (.int .i64 0), (.int .i64 0), (.pointer none), (.pointer
  none)] [(0, (1, (.c t58_30))), (1, (1, (.c (e18 8)))), (2, (1, (.c (.int .i64 (-1))))), (3, (1, (.c t47_22))), (4, (1, (.c t49_23)))]) [] H fun t62_31 H => run S (.box
  86 (.c t62_31)) [] H fun t63_32 H => run S (.nck (.c t63_32)) [] H fun t66_33 H => run S (.fad 0 (.c t66_33)) [] H fun t67_34 H => run S (.ld (.c t67_34)) [] H fun
  t68_35 H => run S (.bin .add (.c (e18 7)) (.c t68_35)) [] H fun t69_36 H => run S (.mki 111 (.c (e18 4))) [] H fun t71_37 H => run S (.mki 82 (.c t63_32)) [] H fun
  t73_38 H => run S (.call 82 [(.c t71_37), (.c t73_38)]) [] H fun t74_39 H => Q19 .normal (upd (upd (upd (upd (upd (upd (upd (upd (upd (upd (upd (upd (upd (upd (upd
  (upd (upd (upd (upd (upd (upd (upd (upd (upd (upd (upd (upd (upd (upd (upd (upd (upd (upd e18 46 (e18 4)) 47 t47_22) 48 (e18 4)) 49 t49_23) 9 t47_22) 10 t49_23) 50
  t47_22) 51 t51_24) 52 t52_25) 53 t53_26) 54 t49_23) 55 t55_27) 56 t56_28) 57 t57_29) 58 t58_30) 59 (e18 8)) 60 t47_22) 61 t49_23) 62 t62_31) 63 t63_32) 11 t63_32) 64
  (e18 7)) 65 t63_32) 66 t66_33) 67 t67_34) 68 t68_35) 69 t69_36) 7 t69_36) 70 (e18 4)) 71 t71_37) 72 t63_32) 73 t73_38) 74 t74_39) H) Q) fun Q17 => cnd t43_16 (fun Q40
  => Q40 .normal (upd (upd (upd (upd (upd e 39 (e 4)) 40 t40_13) 41 t41_14) 42 t42_15) 43 t43_16) H) (fun Q41 => Q41 (.exit 2) (upd (upd (upd (upd (upd e 39 (e 4)) 40
  t40_13) 41 t41_14) 42 t42_15) 43 t43_16) H) Q17
theorem h53_0 (S : Sys) (e : Fe) (H : Heap) (Q : Kx) : wpC S b53_0 e H Q = s53_0 S e H Q := by kernel_rfl
theorem l53_0 (S : Sys) {Q : Kx} (I : Nat → Fe → Heap → Prop) (d : Nat) {e0 : Fe} {H : Heap} (h0 : I d e0 H) (hr : ∀ (d : Nat) (e : Fe) (H : Heap), I d e H → s53_0 S e H
  (sq (fun e' H' => ∃ d', d' < d ∧ I d' e' H') Q)) : WL S b53_0 e0 H Q := WL_inv I d h0 fun d e H hi => (h53_0 S e H _).mpr (hr d e H hi)
theorem u53_0 (S : Sys) {Q : Kx} {e : Fe} {H : Heap} (h : s53_0 S e H (sq (fun e' H' => WL S b53_0 e' H' Q) Q)) : WL S b53_0 e H Q := WL_once ((h53_0 S e H _).mpr h)
def s53 (S : Sys) (a0 : Value) (H : Heap) (R : Kv) : Prop := run S (.bsl 82 0 [] []) [] H fun t12_1 H => run S (.box 113 (.c t12_1)) [] H fun t13_2 H => run S (.lenL (.c
  a0)) [] H fun t15_3 H => jn (sq (fun e5 H => run S (.mki 111 (.c (e5 4))) [] H fun t37_6 H => run S (.call 79 [(.c t37_6)]) [] H fun t38_7 H => jn (sq (fun e9 H => run
  S (.call 81 [(.c (e9 4))]) [] H fun t76_10 H => R (tup [t76_10, (e9 7)]) H) (fn [(.t 2), (.t 3)] R)) fun Q8 => jn (blk 2 Q8) fun Q11 => WL S b53_0 (upd (upd (upd (upd
  (upd e5 36 (e5 4)) 37 t37_6) 38 t38_7) 7 (.int .i64 0)) 8 (.int .i64 256)) H Q11) (fn [(.t 2), (.t 3)] R)) fun Q4 => jn (blk 0 Q4) fun Q12 => WL S b53_1 (upd (upd (upd
  (upd (upd (upd (upd (upd (Env.get [a0]) 2 (.pointer none)) 3 (.int .i64 0)) 12 t12_1) 13 t13_2) 4 t13_2) 14 a0) 15 t15_3) 16 (.int .i64 0)) H Q12
theorem h53 (S : Sys) (a0 : Value) (H : Heap) (R : Kv) : wpC S k53.body (Env.get [a0]) H (fn [(.t 2), (.t 3)] R) = s53 S a0 H R := by kernel_rfl
theorem w53 {S : Sys} (hR : S.R 53 = none) (hF : S.F 53 = some k53) (a0 : Value) {H : Heap} {R : Kv} (h : s53 S a0 H R) : Wf S 53 [a0] H R := Wf_sh hR hF ((h53 S a0 H
  R).mpr h)
def s54 (S : Sys) (a0 a1 a2 : Value) (H : Heap) (R : Kv) : Prop := run S (.nck (.c a0)) [] H fun t7_1 H => run S (.fad 2 (.c t7_1)) [] H fun t8_2 H => run S (.ld (.c
  t8_2)) [] H fun t9_3 H => run S (.bin .geq (.c t9_3) (.c (.int .i64 0))) [] H fun t10_4 H => jn (sq (fun e6 H => run S (.nck (.c (e6 0))) [] H fun t19_7 H => run S
  (.fad 3 (.c t19_7)) [] H fun t20_8 H => run S (.ld (.c t20_8)) [] H fun t21_9 H => run S (.bin .add (.c (e6 1)) (.c (.int .i64 1))) [] H fun t23_10 H => run S (.call
  54 [(.c t21_9), (.c t23_10), (.c (e6 2))]) [] H fun t25_11 H => run S (.nck (.c (e6 0))) [] H fun t27_12 H => run S (.fad 4 (.c t27_12)) [] H fun t28_13 H => run S
  (.ld (.c t28_13)) [] H fun t29_14 H => run S (.bin .add (.c (e6 1)) (.c (.int .i64 1))) [] H fun t31_15 H => run S (.call 54 [(.c t29_14), (.c t31_15), (.c (e6 2))])
  [] H fun t33_16 H => R (tup []) H) (fn [] R)) fun Q5 => cnd t10_4 (fun Q17 => run S (.nck (.c a0)) [] H fun t13_19 H => run S (.fad 2 (.c t13_19)) [] H fun t14_20 H =>
  run S (.ld (.c t14_20)) [] H fun t15_21 H => run S (.callv (.c a2) [(.c t15_21), (.c a1)]) [] H fun t17_22 H => Q17 .ret (upd (upd (upd (upd (upd (upd (upd (upd (upd
  (upd (upd (upd (Env.get [a0, a1, a2]) 6 a0) 7 t7_1) 8 t8_2) 9 t9_3) 10 t10_4) 11 a2) 12 a0) 13 t13_19) 14 t14_20) 15 t15_21) 16 a1) 17 t17_22) H) (fun Q18 => Q18
  .normal (upd (upd (upd (upd (upd (Env.get [a0, a1, a2]) 6 a0) 7 t7_1) 8 t8_2) 9 t9_3) 10 t10_4) H) Q5
theorem h54 (S : Sys) (a0 a1 a2 : Value) (H : Heap) (R : Kv) : wpC S k54.body (Env.get [a0, a1, a2]) H (fn [] R) = s54 S a0 a1 a2 H R := by kernel_rfl
theorem w54 {S : Sys} (hR : S.R 54 = none) (hF : S.F 54 = some k54) (a0 a1 a2 : Value) {H : Heap} {R : Kv} (h : s54 S a0 a1 a2 H R) : Wf S 54 [a0, a1, a2] H R := Wf_sh
  hR hF ((h54 S a0 a1 a2 H R).mpr h)
def s55 (S : Sys) (a0 a1 a2 a3 : Value) (H : Heap) (R : Kv) : Prop := run S (.ld (.c a2)) [] H fun t6_1 H => run S (.iad 1 (.c t6_1) (.c a0)) [] H fun t9_2 H => run S
  (.st (.c t9_2) (.c a1)) [] H fun _ H => run S (.ld (.c a3)) [] H fun t10_3 H => run S (.mx (.c t10_3) [(.c a1)]) [] H fun t12_4 H => run S (.st (.c a3) (.c t12_4)) []
  H fun _ H => R (tup []) H
theorem h55 (S : Sys) (a0 a1 a2 a3 : Value) (H : Heap) (R : Kv) : wpC S k55.body (Env.get [a0, a1, a2, a3]) H (fn [] R) = s55 S a0 a1 a2 a3 H R := by kernel_rfl
theorem w55 {S : Sys} (hR : S.R 55 = none) (hF : S.F 55 = some k55) (a0 a1 a2 a3 : Value) {H : Heap} {R : Kv} (h : s55 S a0 a1 a2 a3 H R) : Wf S 55 [a0, a1, a2, a3] H R
  := Wf_sh hR hF ((h55 S a0 a1 a2 a3 H R).mpr h)
def b78_0 : KCode := (.seq (.reg [(.op (some 9) none (.bin .lss (.t 8) (.t 7)))]) (.seq (.cond (.t 9) .skip (.exit 0)) (.seq (.block 1 (.seq (.reg [(.op (some 10) none
  (.iad 1 (.t 6) (.t 8))), (.op (some 11) none (.ld (.t 10))), (.op (some 5) none (.mv (.t 11)))]) (.reg [(.op (some 12) none (.mv (.t 3))), (.op (some 13) none (.mv (.t
  5))), (.op (some 14) none (.bin .add (.t 12) (.t 13))), (.op (some 3) none (.mv (.t 14)))]))) (.reg [(.op (some 15) none (.bin .add (.t 8) (.c (.int .i64 1)))), (.op
  (some 8) none (.mv (.t 15)))]))))
def s78_0 (S : Sys) (e : Fe) (H : Heap) (Q : Kx) : Prop := run S (.bin .lss (.c (e 8)) (.c (e 7))) [] H fun t9_5 H => jn (sq (fun e7 H => jn (sq (fun e9 H => run S (.bin
  .add (.c (e9 8)) (.c (.int .i64 1))) [] H fun t15_10 H => Q .normal (upd (upd e9 15 t15_10) 8 t15_10) H) Q) fun Q8 => run S (.iad 1 (.c (e7 6)) (.c (e7 8))) [] H fun
  t10_11 H => run S (.ld (.c t10_11)) [] H fun t11_12 H => run S (.bin .add (.c (e7 3)) (.c t11_12)) [] H fun t14_13 H => Q8 .normal (upd (upd (upd (upd (upd (upd (upd
  e7 10 t10_11) 11 t11_12) 5 t11_12) 12 (e7 3)) 13 t11_12) 14 t14_13) 3 t14_13) H) Q) fun Q6 => cnd t9_5 (fun Q14 => Q14 .normal (upd e 9 t9_5) H) (fun Q15 => Q15 (.exit
  0) (upd e 9 t9_5) H) Q6
theorem h78_0 (S : Sys) (e : Fe) (H : Heap) (Q : Kx) : wpC S b78_0 e H Q = s78_0 S e H Q := by kernel_rfl
theorem l78_0 (S : Sys) {Q : Kx} (I : Nat → Fe → Heap → Prop) (d : Nat) {e0 : Fe} {H : Heap} (h0 : I d e0 H) (hr : ∀ (d : Nat) (e : Fe) (H : Heap), I d e H → s78_0 S e H
  (sq (fun e' H' => ∃ d', d' < d ∧ I d' e' H') Q)) : WL S b78_0 e0 H Q := WL_inv I d h0 fun d e H hi => (h78_0 S e H _).mpr (hr d e H hi)
theorem u78_0 (S : Sys) {Q : Kx} {e : Fe} {H : Heap} (h : s78_0 S e H (sq (fun e' H' => WL S b78_0 e' H' Q) Q)) : WL S b78_0 e H Q := WL_once ((h78_0 S e H _).mpr h)
def s78 (S : Sys) (a0 : Value) (H : Heap) (R : Kv) : Prop := run S (.lenL (.c a0)) [] H fun t7_1 H => jn (sq (fun e3 H => R (e3 3) H) (fn [(.t 2)] R)) fun Q2 => jn (blk
  0 Q2) fun Q4 => WL S b78_0 (upd (upd (upd (upd (upd (Env.get [a0]) 2 (.int .i64 0)) 3 (.int .i64 0)) 6 a0) 7 t7_1) 8 (.int .i64 0)) H Q4
theorem h78 (S : Sys) (a0 : Value) (H : Heap) (R : Kv) : wpC S k78.body (Env.get [a0]) H (fn [(.t 2)] R) = s78 S a0 H R := by kernel_rfl
theorem w78 {S : Sys} (hR : S.R 78 = none) (hF : S.F 78 = some k78) (a0 : Value) {H : Heap} {R : Kv} (h : s78 S a0 H R) : Wf S 78 [a0] H R := Wf_sh hR hF ((h78 S a0 H
  R).mpr h)
def b79_0 : KCode := (.seq (.seq (.reg [(.op (some 9) none (.mv (.t 3))), (.op (some 10) none (.bin .geq (.t 9) (.c (.int .i64 0))))]) (.cond (.t 10) .skip (.exit 0)))
  (.seq (.block 1 (.reg [(.op (some 13) none (.mv (.t 0))), (.op (some 14) none (.mv (.t 3))), (.op (some 15) none (.mv (.t 2))), (.op (some 16) none (.call 91 [(.t 13),
  (.t 14), (.t 15)]))])) (.reg [(.op (some 11) none (.mv (.t 3))), (.op (some 12) none (.bin .sub (.t 11) (.c (.int .i64 1)))), (.op (some 3) none (.mv (.t 12)))])))
def s79_0 (S : Sys) (e : Fe) (H : Heap) (Q : Kx) : Prop := run S (.bin .geq (.c (e 3)) (.c (.int .i64 0))) [] H fun t10_5 H => jn (sq (fun e7 H => jn (sq (fun e9 H =>
  run S (.bin .sub (.c (e9 3)) (.c (.int .i64 1))) [] H fun t12_10 H => Q .normal (upd (upd (upd e9 11 (e9 3)) 12 t12_10) 3 t12_10) H) Q) fun Q8 => run S (.call 91 [(.c
  (e7 0)), (.c (e7 3)), (.c (e7 2))]) [] H fun t16_11 H => Q8 .normal (upd (upd (upd (upd e7 13 (e7 0)) 14 (e7 3)) 15 (e7 2)) 16 t16_11) H) Q) fun Q6 => cnd t10_5 (fun
  Q12 => Q12 .normal (upd (upd e 9 (e 3)) 10 t10_5) H) (fun Q13 => Q13 (.exit 0) (upd (upd e 9 (e 3)) 10 t10_5) H) Q6
theorem h79_0 (S : Sys) (e : Fe) (H : Heap) (Q : Kx) : wpC S b79_0 e H Q = s79_0 S e H Q := by kernel_rfl
theorem l79_0 (S : Sys) {Q : Kx} (I : Nat → Fe → Heap → Prop) (d : Nat) {e0 : Fe} {H : Heap} (h0 : I d e0 H) (hr : ∀ (d : Nat) (e : Fe) (H : Heap), I d e H → s79_0 S e H
  (sq (fun e' H' => ∃ d', d' < d ∧ I d' e' H') Q)) : WL S b79_0 e0 H Q := WL_inv I d h0 fun d e H hi => (h79_0 S e H _).mpr (hr d e H hi)
theorem u79_0 (S : Sys) {Q : Kx} {e : Fe} {H : Heap} (h : s79_0 S e H (sq (fun e' H' => WL S b79_0 e' H' Q) Q)) : WL S b79_0 e H Q := WL_once ((h79_0 S e H _).mpr h)
def s79 (S : Sys) (a0 : Value) (H : Heap) (R : Kv) : Prop := run S (.inv (.c a0) "Len" []) [] H fun t5_1 H => run S (.bin .quo (.c t5_1) (.c (.int .i64 2))) [] H fun
  t7_2 H => run S (.bin .sub (.c t7_2) (.c (.int .i64 1))) [] H fun t8_3 H => jn (blk 0 (fn [] R)) fun Q4 => WL S b79_0 (upd (upd (upd (upd (upd (upd (upd (Env.get [a0])
  4 a0) 5 t5_1) 2 t5_1) 6 t5_1) 7 t7_2) 8 t8_3) 3 t8_3) H Q4
theorem h79 (S : Sys) (a0 : Value) (H : Heap) (R : Kv) : wpC S k79.body (Env.get [a0]) H (fn [] R) = s79 S a0 H R := by kernel_rfl
theorem w79 {S : Sys} (hR : S.R 79 = none) (hF : S.F 79 = some k79) (a0 : Value) {H : Heap} {R : Kv} (h : s79 S a0 H R) : Wf S 79 [a0] H R := Wf_sh hR hF ((h79 S a0 H
  R).mpr h)
def s80 (S : Sys) (a0 : Value) (H : Heap) (R : Kv) : Prop := run S (.lenL (.c a0)) [] H fun t4_1 H => R t4_1 H
theorem h80 (S : Sys) (a0 : Value) (H : Heap) (R : Kv) : wpC S k80.body (Env.get [a0]) H (fn [(.t 2)] R) = s80 S a0 H R := by kernel_rfl
theorem w80 {S : Sys} (hR : S.R 80 = none) (hF : S.F 80 = some k80) (a0 : Value) {H : Heap} {R : Kv} (h : s80 S a0 H R) : Wf S 80 [a0] H R := Wf_sh hR hF ((h80 S a0 H
  R).mpr h)
def s81 (S : Sys) (a0 : Value) (H : Heap) (R : Kv) : Prop := run S (.mki 111 (.c a0)) [] H fun t7_1 H => run S (.call 92 [(.c t7_1)]) [] H fun t8_2 H => run S (.tas 82
  (.pointer none) true (.c t8_2)) [] H fun t9_3 H => run S (.xt (.c t9_3) 0) [] H fun t10_4 H => run S (.xt (.c t9_3) 1) [] H fun t11_5 H => R t10_4 H
theorem h81 (S : Sys) (a0 : Value) (H : Heap) (R : Kv) : wpC S k81.body (Env.get [a0]) H (fn [(.t 2)] R) = s81 S a0 H R := by kernel_rfl
theorem w81 {S : Sys} (hR : S.R 81 = none) (hF : S.F 81 = some k81) (a0 : Value) {H : Heap} {R : Kv} (h : s81 S a0 H R) : Wf S 81 [a0] H R := Wf_sh hR hF ((h81 S a0 H
  R).mpr h)
def s82 (S : Sys) (a0 a1 : Value) (H : Heap) (R : Kv) : Prop := run S (.inv (.c a0) "Push" [(.c a1)]) [] H fun t6_1 H => run S (.inv (.c a0) "Len" []) [] H fun t9_2 H =>
  run S (.bin .sub (.c t9_2) (.c (.int .i64 1))) [] H fun t10_3 H => run S (.call 93 [(.c a0), (.c t10_3)]) [] H fun t11_4 H => R (tup []) H
theorem h82 (S : Sys) (a0 a1 : Value) (H : Heap) (R : Kv) : wpC S k82.body (Env.get [a0, a1]) H (fn [] R) = s82 S a0 a1 H R := by kernel_rfl
theorem w82 {S : Sys} (hR : S.R 82 = none) (hF : S.F 82 = some k82) (a0 a1 : Value) {H : Heap} {R : Kv} (h : s82 S a0 a1 H R) : Wf S 82 [a0, a1] H R := Wf_sh hR hF ((h82
  S a0 a1 H R).mpr h)
def s86 (S : Sys) (a0 a1 : Value) (H : Heap) (R : Kv) : Prop := run S (.call 96 [(.c a0)]) [] H fun t8_1 H => run S (.call 96 [(.c a1)]) [] H fun t10_2 H => jn (sq (fun
  e4 H => jn (sq (fun e6 H => run S (.bin .lss (.c (e6 0)) (.c (e6 1))) [] H fun t16_7 H => jn (sq (fun e9 H => run S (.bin .gtr (.c (e9 0)) (.c (e9 1))) [] H fun t19_10
  H => jn (sq (fun e12 H => R (.int .i64 0) H) (fn [(.t 4)] R)) fun Q11 => cnd t19_10 (fun Q13 => Q13 .ret (upd (upd (upd (upd e9 17 (e9 0)) 18 (e9 1)) 19 t19_10) 4
  (.int .i64 1)) H) (fun Q14 => Q14 .normal (upd (upd (upd e9 17 (e9 0)) 18 (e9 1)) 19 t19_10) H) Q11) (fn [(.t 4)] R)) fun Q8 => cnd t16_7 (fun Q15 => Q15 .ret (upd
  (upd (upd (upd e6 14 (e6 0)) 15 (e6 1)) 16 t16_7) 4 (.int .i64 (-1))) H) (fun Q16 => Q16 .normal (upd (upd (upd e6 14 (e6 0)) 15 (e6 1)) 16 t16_7) H) Q8) (fn [(.t 4)]
  R)) fun Q5 => cnd (e4 6) (fun Q17 => Q17 .ret (upd (upd e4 13 (e4 6)) 4 (.int .i64 1)) H) (fun Q18 => Q18 .normal (upd e4 13 (e4 6)) H) Q5) (fn [(.t 4)] R)) fun Q3 =>
  cnd t8_1 (fun Q19 => jn (sq (fun e22 H => Q19 .ret (upd e22 4 (.int .i64 (-1))) H) Q19) fun Q21 => cnd t10_2 (fun Q23 => Q23 .ret (upd (upd (upd (upd (upd (upd (upd
  (upd (upd (upd (Env.get [a0, a1]) 4 (.int .i64 0)) 7 a0) 8 t8_1) 5 t8_1) 9 a1) 10 t10_2) 6 t10_2) 11 t8_1) 12 t10_2) 4 (.int .i64 0)) H) (fun Q24 => Q24 .normal (upd
  (upd (upd (upd (upd (upd (upd (upd (upd (Env.get [a0, a1]) 4 (.int .i64 0)) 7 a0) 8 t8_1) 5 t8_1) 9 a1) 10 t10_2) 6 t10_2) 11 t8_1) 12 t10_2) H) Q21) (fun Q20 => Q20
  .normal (upd (upd (upd (upd (upd (upd (upd (upd (Env.get [a0, a1]) 4 (.int .i64 0)) 7 a0) 8 t8_1) 5 t8_1) 9 a1) 10 t10_2) 6 t10_2) 11 t8_1) H) Q3
theorem h86 (S : Sys) (a0 a1 : Value) (H : Heap) (R : Kv) : wpC S k86.body (Env.get [a0, a1]) H (fn [(.t 4)] R) = s86 S a0 a1 H R := by kernel_rfl
theorem w86 {S : Sys} (hR : S.R 86 = none) (hF : S.F 86 = some k86) (a0 a1 : Value) {H : Heap} {R : Kv} (h : s86 S a0 a1 H R) : Wf S 86 [a0, a1] H R := Wf_sh hR hF ((h86
  S a0 a1 H R).mpr h)
def b91_0 : KCode := (.block 1 (.seq (.reg [(.op (some 12) none (.mv (.t 7))), (.op (some 13) none (.bin .mul (.c (.int .i64 2)) (.t 12))), (.op (some 14) none (.bin
  .add (.t 13) (.c (.int .i64 1)))), (.op (some 8) none (.mv (.t 14)))]) (.seq (.seq (.reg [(.op (some 15) none (.mv (.t 8))), (.op (some 16) none (.mv (.t 2))), (.op
  (some 17) none (.bin .geq (.t 15) (.t 16))), (.op (some 18) none (.mv (.t 17))), (.op (some 19) (some (18, false)) (.mv (.t 8))), (.op (some 20) (some (18, false))
  (.bin .lss (.t 19) (.c (.int .i64 0)))), (.op (some 21) none (.pick (.t 18) (.c (.bool true)) (.t 20)))]) (.cond (.t 21) (.exit 0) .skip)) (.seq (.reg [(.op (some 22)
  none (.mv (.t 8))), (.op (some 9) none (.mv (.t 22)))]) (.seq (.seq (.reg [(.op (some 23) none (.mv (.t 8))), (.op (some 24) none (.bin .add (.t 23) (.c (.int .i64
  1)))), (.op (some 10) none (.mv (.t 24)))]) (.seq (.reg [(.op (some 25) none (.mv (.t 10))), (.op (some 26) none (.mv (.t 2))), (.op (some 27) none (.bin .lss (.t 25)
  (.t 26))), (.op (some 28) none (.mv (.t 27))), (.op (some 29) (some (28, true)) (.mv (.t 0))), (.op (some 30) (some (28, true)) (.mv (.t 10))), (.op (some 31) (some
  (28, true)) (.mv (.t 8))), (.op (some 32) (some (28, true)) (.inv (.t 29) "Less" [(.t 30), (.t 31)])), (.op (some 33) none (.pick (.t 28) (.t 32) (.c (.bool
  false))))]) (.cond (.t 33) (.reg [(.op (some 34) none (.mv (.t 10))), (.op (some 9) none (.mv (.t 34)))]) .skip))) (.seq (.seq (.reg [(.op (some 35) none (.mv (.t
  0))), (.op (some 36) none (.mv (.t 9))), (.op (some 37) none (.mv (.t 7))), (.op (some 38) none (.inv (.t 35) "Less" [(.t 36), (.t 37)])), (.op (some 39) none (.un
  .not (.t 38)))]) (.cond (.t 39) (.exit 0) .skip)) (.seq (.reg [(.op (some 40) none (.mv (.t 0))), (.op (some 41) none (.mv (.t 7))), (.op (some 42) none (.mv (.t 9))),
  (.op (some 43) none (.inv (.t 40) "Swap" [(.t 41), (.t 42)]))]) (.reg [(.op (some 44) none (.mv (.t 9))), (.op (some 7) none (.mv (.t 44)))]))))))))
def s91_0 (S : Sys) (e : Fe) (H : Heap) (Q : Kx) : Prop := run S (.bin .mul (.c (.int .i64 2)) (.c (e 7))) [] H fun t13_5 H => run S (.bin .add (.c t13_5) (.c (.int .i64
  1))) [] H fun t14_6 H => run S (.bin .geq (.c t14_6) (.c (e 2))) [] H fun t17_7 H => gd t17_7 false (run S (.mv (.c t14_6)) [] H) H fun t19_8 H => gd t17_7 false (run
  S (.bin .lss (.c t19_8) (.c (.int .i64 0))) [] H) H fun t20_9 H => run S (.pick (.c t17_7) (.c (.bool true)) (.c t20_9)) [] H fun t21_10 H => jn (blk 1 Q) fun Q11 =>
  jn (sq (fun e13 H => run S (.bin .add (.c (e13 8)) (.c (.int .i64 1))) [] H fun t24_14 H => run S (.bin .lss (.c t24_14) (.c (e13 2))) [] H fun t27_15 H => gd t27_15
  true (run S (.mv (.c (e13 0))) [] H) H fun t29_16 H => gd t27_15 true (run S (.mv (.c t24_14)) [] H) H fun t30_17 H => gd t27_15 true (run S (.mv (.c (e13 8))) [] H) H
  fun t31_18 H => gd t27_15 true (run S (.inv (.c t29_16) "Less" [(.c t30_17), (.c t31_18)]) [] H) H fun t32_19 H => run S (.pick (.c t27_15) (.c t32_19) (.c (.bool
  false))) [] H fun t33_20 H => jn (sq (fun e22 H => run S (.inv (.c (e22 0)) "Less" [(.c (e22 9)), (.c (e22 7))]) [] H fun t38_23 H => run S (.un .not (.c t38_23)) [] H
  fun t39_24 H => jn (sq (fun e26 H => run S (.inv (.c (e26 0)) "Swap" [(.c (e26 7)), (.c (e26 9))]) [] H fun t43_27 H => Q11 .normal (upd (upd (upd (upd (upd (upd e26
  40 (e26 0)) 41 (e26 7)) 42 (e26 9)) 43 t43_27) 44 (e26 9)) 7 (e26 9)) H) Q11) fun Q25 => cnd t39_24 (fun Q28 => Q28 (.exit 0) (upd (upd (upd (upd (upd e22 35 (e22 0))
  36 (e22 9)) 37 (e22 7)) 38 t38_23) 39 t39_24) H) (fun Q29 => Q29 .normal (upd (upd (upd (upd (upd e22 35 (e22 0)) 36 (e22 9)) 37 (e22 7)) 38 t38_23) 39 t39_24) H) Q25)
  Q11) fun Q21 => cnd t33_20 (fun Q30 => Q30 .normal (upd (upd (upd (upd (upd (upd (upd (upd (upd (upd (upd (upd (upd (upd (upd (upd e13 22 (e13 8)) 9 (e13 8)) 23 (e13
  8)) 24 t24_14) 10 t24_14) 25 t24_14) 26 (e13 2)) 27 t27_15) 28 t27_15) 29 t29_16) 30 t30_17) 31 t31_18) 32 t32_19) 33 t33_20) 34 t24_14) 9 t24_14) H) (fun Q31 => Q31
  .normal (upd (upd (upd (upd (upd (upd (upd (upd (upd (upd (upd (upd (upd (upd e13 22 (e13 8)) 9 (e13 8)) 23 (e13 8)) 24 t24_14) 10 t24_14) 25 t24_14) 26 (e13 2)) 27
  t27_15) 28 t27_15) 29 t29_16) 30 t30_17) 31 t31_18) 32 t32_19) 33 t33_20) H) Q21) Q11) fun Q12 => cnd t21_10 (fun Q32 => Q32 (.exit 0) (upd (upd (upd (upd (upd (upd
  (upd (upd (upd (upd (upd e 12 (e 7)) 13 t13_5) 14 t14_6) 8 t14_6) 15 t14_6) 16 (e 2)) 17 t17_7) 18 t17_7) 19 t19_8) 20 t20_9) 21 t21_10) H) (fun Q33 => Q33 .normal
  (upd (upd (upd (upd (upd (upd (upd (upd (upd (upd (upd e 12 (e 7)) 13 t13_5) 14 t14_6) 8 t14_6) 15 t14_6) 16 (e 2)) 17 t17_7) 18 t17_7) 19 t19_8) 20 t20_9) 21 t21_10)
  H) Q12
theorem h91_0 (S : Sys) (e : Fe) (H : Heap) (Q : Kx) : wpC S b91_0 e H Q = s91_0 S e H Q := by kernel_rfl
theorem l91_0 (S : Sys) {Q : Kx} (I : Nat → Fe → Heap → Prop) (d : Nat) {e0 : Fe} {H : Heap} (h0 : I d e0 H) (hr : ∀ (d : Nat) (e : Fe) (H : Heap), I d e H → s91_0 S e H
  (sq (fun e' H' => ∃ d', d' < d ∧ I d' e' H') Q)) : WL S b91_0 e0 H Q := WL_inv I d h0 fun d e H hi => (h91_0 S e H _).mpr (hr d e H hi)
theorem u91_0 (S : Sys) {Q : Kx} {e : Fe} {H : Heap} (h : s91_0 S e H (sq (fun e' H' => WL S b91_0 e' H' Q) Q)) : WL S b91_0 e H Q := WL_once ((h91_0 S e H _).mpr h)
def s91 (S : Sys) (a0 a1 a2 : Value) (H : Heap) (R : Kv) : Prop := jn (sq (fun e2 H => run S (.bin .gtr (.c (e2 7)) (.c (e2 1))) [] H fun t47_3 H => R t47_3 H) (fn [(.t
  6)] R)) fun Q1 => jn (blk 0 Q1) fun Q4 => WL S b91_0 (upd (upd (upd (Env.get [a0, a1, a2]) 6 (.bool false)) 11 a1) 7 a1) H Q4
theorem h91 (S : Sys) (a0 a1 a2 : Value) (H : Heap) (R : Kv) : wpC S k91.body (Env.get [a0, a1, a2]) H (fn [(.t 6)] R) = s91 S a0 a1 a2 H R := by kernel_rfl
theorem w91 {S : Sys} (hR : S.R 91 = none) (hF : S.F 91 = some k91) (a0 a1 a2 : Value) {H : Heap} {R : Kv} (h : s91 S a0 a1 a2 H R) : Wf S 91 [a0, a1, a2] H R := Wf_sh
  hR hF ((h91 S a0 a1 a2 H R).mpr h)
def s92 (S : Sys) (a0 : Value) (H : Heap) (R : Kv) : Prop := run S (.inv (.c a0) "Len" []) [] H fun t5_1 H => run S (.bin .sub (.c t5_1) (.c (.int .i64 1))) [] H fun
  t6_2 H => run S (.inv (.c a0) "Swap" [(.c (.int .i64 0)), (.c t6_2)]) [] H fun t9_3 H => run S (.call 91 [(.c a0), (.c (.int .i64 0)), (.c t6_2)]) [] H fun t12_4 H =>
  run S (.inv (.c a0) "Pop" []) [] H fun t14_5 H => R t14_5 H
theorem h92 (S : Sys) (a0 : Value) (H : Heap) (R : Kv) : wpC S k92.body (Env.get [a0]) H (fn [(.t 2)] R) = s92 S a0 H R := by kernel_rfl
theorem w92 {S : Sys} (hR : S.R 92 = none) (hF : S.F 92 = some k92) (a0 : Value) {H : Heap} {R : Kv} (h : s92 S a0 H R) : Wf S 92 [a0] H R := Wf_sh hR hF ((h92 S a0 H
  R).mpr h)
def b93_0 : KCode := (.block 1 (.seq (.reg [(.op (some 5) none (.mv (.t 1))), (.op (some 6) none (.bin .sub (.t 5) (.c (.int .i64 1)))), (.op (some 7) none (.bin .quo
  (.t 6) (.c (.int .i64 2)))), (.op (some 4) none (.mv (.t 7)))]) (.seq (.seq (.reg [(.op (some 8) none (.mv (.t 4))), (.op (some 9) none (.mv (.t 1))), (.op (some 10)
  none (.bin .eql (.t 8) (.t 9))), (.op (some 11) none (.mv (.t 10))), (.op (some 12) (some (11, false)) (.mv (.t 0))), (.op (some 13) (some (11, false)) (.mv (.t 1))),
  (.op (some 14) (some (11, false)) (.mv (.t 4))), (.op (some 15) (some (11, false)) (.inv (.t 12) "Less" [(.t 13), (.t 14)])), (.op (some 16) (some (11, false)) (.un
  .not (.t 15))), (.op (some 17) none (.pick (.t 11) (.c (.bool true)) (.t 16)))]) (.cond (.t 17) (.exit 0) .skip)) (.seq (.reg [(.op (some 18) none (.mv (.t 0))), (.op
  (some 19) none (.mv (.t 4))), (.op (some 20) none (.mv (.t 1))), (.op (some 21) none (.inv (.t 18) "Swap" [(.t 19), (.t 20)]))]) (.reg [(.op (some 22) none (.mv (.t
  4))), (.op (some 1) none (.mv (.t 22)))])))))
def s93_0 (S : Sys) (e : Fe) (H : Heap) (Q : Kx) : Prop := run S (.bin .sub (.c (e 1)) (.c (.int .i64 1))) [] H fun t6_2 H => run S (.bin .quo (.c t6_2) (.c (.int .i64
  2))) [] H fun t7_3 H => run S (.bin .eql (.c t7_3) (.c (e 1))) [] H fun t10_4 H => gd t10_4 false (run S (.mv (.c (e 0))) [] H) H fun t12_5 H => gd t10_4 false (run S
  (.mv (.c (e 1))) [] H) H fun t13_6 H => gd t10_4 false (run S (.mv (.c t7_3)) [] H) H fun t14_7 H => gd t10_4 false (run S (.inv (.c t12_5) "Less" [(.c t13_6), (.c
  t14_7)]) [] H) H fun t15_8 H => gd t10_4 false (run S (.un .not (.c t15_8)) [] H) H fun t16_9 H => run S (.pick (.c t10_4) (.c (.bool true)) (.c t16_9)) [] H fun
  t17_10 H => jn (blk 1 Q) fun Q11 => jn (sq (fun e13 H => run S (.inv (.c (e13 0)) "Swap" [(.c (e13 4)), (.c (e13 1))]) [] H fun t21_14 H => Q11 .normal (upd (upd (upd
  (upd (upd (upd e13 18 (e13 0)) 19 (e13 4)) 20 (e13 1)) 21 t21_14) 22 (e13 4)) 1 (e13 4)) H) Q11) fun Q12 => cnd t17_10 (fun Q15 => Q15 (.exit 0) (upd (upd (upd (upd
  (upd (upd (upd (upd (upd (upd (upd (upd (upd (upd e 5 (e 1)) 6 t6_2) 7 t7_3) 4 t7_3) 8 t7_3) 9 (e 1)) 10 t10_4) 11 t10_4) 12 t12_5) 13 t13_6) 14 t14_7) 15 t15_8) 16
  t16_9) 17 t17_10) H) (fun Q16 => Q16 .normal (upd (upd (upd (upd (upd (upd (upd (upd (upd (upd (upd (upd (upd (upd e 5 (e 1)) 6 t6_2) 7 t7_3) 4 t7_3) 8 t7_3) 9 (e 1))
  10 t10_4) 11 t10_4) 12 t12_5) 13 t13_6) 14 t14_7) 15 t15_8) 16 t16_9) 17 t17_10) H) Q12
theorem h93_0 (S : Sys) (e : Fe) (H : Heap) (Q : Kx) : wpC S b93_0 e H Q = s93_0 S e H Q := by kernel_rfl
theorem l93_0 (S : Sys) {Q : Kx} (I : Nat → Fe → Heap → Prop) (d : Nat) {e0 : Fe} {H : Heap} (h0 : I d e0 H) (hr : ∀ (d : Nat) (e : Fe) (H : Heap), I d e H → s93_0 S e H
  (sq (fun e' H' => ∃ d', d' < d ∧ I d' e' H') Q)) : WL S b93_0 e0 H Q := WL_inv I d h0 fun d e H hi => (h93_0 S e H _).mpr (hr d e H hi)
theorem u93_0 (S : Sys) {Q : Kx} {e : Fe} {H : Heap} (h : s93_0 S e H (sq (fun e' H' => WL S b93_0 e' H' Q) Q)) : WL S b93_0 e H Q := WL_once ((h93_0 S e H _).mpr h)
def s93 (S : Sys) (a0 a1 : Value) (H : Heap) (R : Kv) : Prop := jn (blk 0 (fn [] R)) fun Q1 => WL S b93_0 (Env.get [a0, a1]) H Q1
theorem h93 (S : Sys) (a0 a1 : Value) (H : Heap) (R : Kv) : wpC S k93.body (Env.get [a0, a1]) H (fn [] R) = s93 S a0 a1 H R := by kernel_rfl
theorem w93 {S : Sys} (hR : S.R 93 = none) (hF : S.F 93 = some k93) (a0 a1 : Value) {H : Heap} {R : Kv} (h : s93 S a0 a1 H R) : Wf S 93 [a0, a1] H R := Wf_sh hR hF ((h93
  S a0 a1 H R).mpr h)
def s96 (S : Sys) (a0 : Value) (H : Heap) (R : Kv) : Prop := run S (.bin .neq (.c a0) (.c a0)) [] H fun t5_1 H => R t5_1 H
theorem h96 (S : Sys) (a0 : Value) (H : Heap) (R : Kv) : wpC S k96.body (Env.get [a0]) H (fn [(.t 2)] R) = s96 S a0 H R := by kernel_rfl
theorem w96 {S : Sys} (hR : S.R 96 = none) (hF : S.F 96 = some k96) (a0 : Value) {H : Heap} {R : Kv} (h : s96 S a0 H R) : Wf S 96 [a0] H R := Wf_sh hR hF ((h96 S a0 H
  R).mpr h)
def s118 (S : Sys) (a0 a1 a2 : Value) (H : Heap) (R : Kv) : Prop := run S (.iad 1 (.c a0) (.c a1)) [] H fun t9_1 H => run S (.ld (.c t9_1)) [] H fun t10_2 H => run S
  (.nck (.c t10_2)) [] H fun t11_3 H => run S (.fad 0 (.c t11_3)) [] H fun t12_4 H => run S (.ld (.c t12_4)) [] H fun t13_5 H => run S (.iad 1 (.c a0) (.c a2)) [] H fun
  t16_6 H => run S (.ld (.c t16_6)) [] H fun t17_7 H => run S (.nck (.c t17_7)) [] H fun t18_8 H => run S (.fad 0 (.c t18_8)) [] H fun t19_9 H => run S (.ld (.c t19_9))
  [] H fun t20_10 H => run S (.iad 1 (.c a0) (.c a1)) [] H fun t24_11 H => run S (.ld (.c t24_11)) [] H fun t25_12 H => run S (.nck (.c t25_12)) [] H fun t26_13 H => run
  S (.fad 1 (.c t26_13)) [] H fun t27_14 H => run S (.ld (.c t27_14)) [] H fun t28_15 H => run S (.iad 1 (.c a0) (.c a2)) [] H fun t31_16 H => run S (.ld (.c t31_16)) []
  H fun t32_17 H => run S (.nck (.c t32_17)) [] H fun t33_18 H => run S (.fad 1 (.c t33_18)) [] H fun t34_19 H => run S (.ld (.c t34_19)) [] H fun t35_20 H => run S
  (.call 86 [(.c t13_5), (.c t20_10)]) [] H fun t21_21 H => ck (kop (.ld (.c t24_11)) [] H) t25_12 (ck (kop (.ld (.c t27_14)) [] H) t28_15 (ck (kop (.ld (.c t31_16)) []
  H) t32_17 (ck (kop (.ld (.c t34_19)) [] H) t35_20 (run S (.call 86 [(.c t28_15), (.c t35_20)]) [] H fun t36_22 H => run S (.bsl 3 2 [(.int .i64 0), (.int .i64 0)] [(0,
  (1, (.c t21_21))), (1, (1, (.c t36_22)))]) [] H fun t37_23 H => run S (.call 122 [(.c t37_23)]) [] H fun t38_24 H => run S (.bin .lss (.c t38_24) (.c (.int .i64 0)))
  [] H fun t39_25 H => R t39_25 H))))
theorem h118 (S : Sys) (a0 a1 a2 : Value) (H : Heap) (R : Kv) : wpC S k118.body (Env.get [a0, a1, a2]) H (fn [(.t 6)] R) = s118 S a0 a1 a2 H R := by kernel_rfl
theorem w118 {S : Sys} (hR : S.R 118 = none) (hF : S.F 118 = some k118) (a0 a1 a2 : Value) {H : Heap} {R : Kv} (h : s118 S a0 a1 a2 H R) : Wf S 118 [a0, a1, a2] H R :=
  Wf_sh hR hF ((h118 S a0 a1 a2 H R).mpr h)
def s119 (S : Sys) (a0 : Value) (H : Heap) (R : Kv) : Prop := run S (.nck (.c a0)) [] H fun t6_1 H => run S (.ld (.c t6_1)) [] H fun t7_2 H => run S (.lenL (.c t7_2)) []
  H fun t8_3 H => run S (.bin .sub (.c t8_3) (.c (.int .i64 1))) [] H fun t9_4 H => run S (.nck (.c a0)) [] H fun t11_5 H => run S (.ld (.c t11_5)) [] H fun t12_6 H =>
  run S (.iad 1 (.c t12_6) (.c t9_4)) [] H fun t14_7 H => run S (.ld (.c t14_7)) [] H fun t15_8 H => run S (.nck (.c a0)) [] H fun t18_9 H => run S (.ld (.c t18_9)) [] H
  fun t19_10 H => run S (.slc 82 1 (.c t19_10) none (some (.c t9_4))) [] H fun t21_11 H => run S (.nck (.c a0)) [] H fun t22_12 H => run S (.st (.c t22_12) (.c t21_11))
  [] H fun _ H => run S (.mki 82 (.c t15_8)) [] H fun t24_13 H => R t24_13 H
theorem h119 (S : Sys) (a0 : Value) (H : Heap) (R : Kv) : wpC S k119.body (Env.get [a0]) H (fn [(.t 2)] R) = s119 S a0 H R := by kernel_rfl
theorem w119 {S : Sys} (hR : S.R 119 = none) (hF : S.F 119 = some k119) (a0 : Value) {H : Heap} {R : Kv} (h : s119 S a0 H R) : Wf S 119 [a0] H R := Wf_sh hR hF ((h119 S
  a0 H R).mpr h)
def s120 (S : Sys) (a0 a1 : Value) (H : Heap) (R : Kv) : Prop := run S (.tas 82 (.pointer none) true (.c a1)) [] H fun t8_1 H => run S (.xt (.c t8_1) 0) [] H fun t9_2 H
  => run S (.xt (.c t8_1) 1) [] H fun t10_3 H => cnd t10_3 (fun Q4 => run S (.nck (.c a0)) [] H fun t14_6 H => run S (.ld (.c t14_6)) [] H fun t15_7 H => run S (.bsl 82
  1 [(.pointer none)] [(0, (1, (.c t9_2)))]) [] H fun t17_8 H => run S (.app 82 1 8 (.c t15_7) (.c t17_8)) [] H fun t18_9 H => run S (.nck (.c a0)) [] H fun t19_10 H =>
  run S (.st (.c t19_10) (.c t18_9)) [] H fun _ H => Q4 .normal (upd (upd (upd (upd (upd (upd (upd (upd (upd (upd (upd (upd (upd (upd (upd (upd (Env.get [a0, a1]) 7 a1)
  8 t8_1) 6 t8_1) 9 t9_2) 10 t10_3) 4 t9_2) 5 t10_3) 11 t10_3) 12 a0) 13 a0) 14 t14_6) 15 t15_7) 16 t9_2) 17 t17_8) 18 t18_9) 19 t19_10) H) (fun Q5 => Q5 .normal (upd
  (upd (upd (upd (upd (upd (upd (upd (Env.get [a0, a1]) 7 a1) 8 t8_1) 6 t8_1) 9 t9_2) 10 t10_3) 4 t9_2) 5 t10_3) 11 t10_3) H) (fn [] R)
theorem h120 (S : Sys) (a0 a1 : Value) (H : Heap) (R : Kv) : wpC S k120.body (Env.get [a0, a1]) H (fn [] R) = s120 S a0 a1 H R := by kernel_rfl
theorem w120 {S : Sys} (hR : S.R 120 = none) (hF : S.F 120 = some k120) (a0 a1 : Value) {H : Heap} {R : Kv} (h : s120 S a0 a1 H R) : Wf S 120 [a0, a1] H R := Wf_sh hR hF
  ((h120 S a0 a1 H R).mpr h)
def s121 (S : Sys) (a0 a1 a2 : Value) (H : Heap) (R : Kv) : Prop := run S (.iad 1 (.c a0) (.c a2)) [] H fun t12_1 H => run S (.ld (.c t12_1)) [] H fun t13_2 H => run S
  (.iad 1 (.c a0) (.c a1)) [] H fun t16_3 H => run S (.ld (.c t16_3)) [] H fun t17_4 H => run S (.iad 1 (.c a0) (.c a1)) [] H fun t18_5 H => run S (.st (.c t18_5) (.c
  t13_2)) [] H fun _ H => run S (.iad 1 (.c a0) (.c a2)) [] H fun t19_6 H => run S (.st (.c t19_6) (.c t17_4)) [] H fun _ H => R (tup []) H
theorem h121 (S : Sys) (a0 a1 a2 : Value) (H : Heap) (R : Kv) : wpC S k121.body (Env.get [a0, a1, a2]) H (fn [] R) = s121 S a0 a1 a2 H R := by kernel_rfl
theorem w121 {S : Sys} (hR : S.R 121 = none) (hF : S.F 121 = some k121) (a0 a1 a2 : Value) {H : Heap} {R : Kv} (h : s121 S a0 a1 a2 H R) : Wf S 121 [a0, a1, a2] H R :=
  Wf_sh hR hF ((h121 S a0 a1 a2 H R).mpr h)
def b122_0 : KCode := (.seq (.reg [(.op (some 9) none (.bin .lss (.t 8) (.t 7)))]) (.seq (.cond (.t 9) .skip (.exit 0)) (.seq (.block 1 (.seq (.reg [(.op (some 10) none
  (.iad 1 (.t 6) (.t 8))), (.op (some 11) none (.ld (.t 10))), (.op (some 5) none (.mv (.t 11)))]) (.seq (.reg [(.op (some 12) none (.mv (.t 5))), (.op (some 13) none
  (.mv (.t 3))), (.op (some 14) none (.bin .neq (.t 12) (.t 13)))]) (.cond (.t 14) (.seq (.reg [(.op (some 15) none (.mv (.t 5))), (.op (some 2) none (.mv (.t 15)))])
  .ret) .skip)))) (.reg [(.op (some 16) none (.bin .add (.t 8) (.c (.int .i64 1)))), (.op (some 8) none (.mv (.t 16)))]))))
def s122_0 (S : Sys) (e : Fe) (H : Heap) (Q : Kx) : Prop := run S (.bin .lss (.c (e 8)) (.c (e 7))) [] H fun t9_5 H => jn (sq (fun e7 H => jn (sq (fun e9 H => run S
  (.bin .add (.c (e9 8)) (.c (.int .i64 1))) [] H fun t16_10 H => Q .normal (upd (upd e9 16 t16_10) 8 t16_10) H) Q) fun Q8 => run S (.iad 1 (.c (e7 6)) (.c (e7 8))) [] H
  fun t10_11 H => run S (.ld (.c t10_11)) [] H fun t11_12 H => run S (.bin .neq (.c t11_12) (.c (e7 3))) [] H fun t14_13 H => jn (blk 1 Q8) fun Q14 => cnd t14_13 (fun
  Q15 => Q15 .ret (upd (upd (upd (upd (upd (upd (upd (upd e7 10 t10_11) 11 t11_12) 5 t11_12) 12 t11_12) 13 (e7 3)) 14 t14_13) 15 t11_12) 2 t11_12) H) (fun Q16 => Q16
  .normal (upd (upd (upd (upd (upd (upd e7 10 t10_11) 11 t11_12) 5 t11_12) 12 t11_12) 13 (e7 3)) 14 t14_13) H) Q14) Q) fun Q6 => cnd t9_5 (fun Q17 => Q17 .normal (upd e
  9 t9_5) H) (fun Q18 => Q18 (.exit 0) (upd e 9 t9_5) H) Q6
theorem h122_0 (S : Sys) (e : Fe) (H : Heap) (Q : Kx) : wpC S b122_0 e H Q = s122_0 S e H Q := by kernel_rfl
theorem l122_0 (S : Sys) {Q : Kx} (I : Nat → Fe → Heap → Prop) (d : Nat) {e0 : Fe} {H : Heap} (h0 : I d e0 H) (hr : ∀ (d : Nat) (e : Fe) (H : Heap), I d e H → s122_0 S e
  H (sq (fun e' H' => ∃ d', d' < d ∧ I d' e' H') Q)) : WL S b122_0 e0 H Q := WL_inv I d h0 fun d e H hi => (h122_0 S e H _).mpr (hr d e H hi)
theorem u122_0 (S : Sys) {Q : Kx} {e : Fe} {H : Heap} (h : s122_0 S e H (sq (fun e' H' => WL S b122_0 e' H' Q) Q)) : WL S b122_0 e H Q := WL_once ((h122_0 S e H _).mpr h)
def s122 (S : Sys) (a0 : Value) (H : Heap) (R : Kv) : Prop := run S (.lenL (.c a0)) [] H fun t7_1 H => jn (sq (fun e3 H => R (e3 3) H) (fn [(.t 2)] R)) fun Q2 => jn (blk
  0 Q2) fun Q4 => WL S b122_0 (upd (upd (upd (upd (upd (Env.get [a0]) 2 (.int .i64 0)) 3 (.int .i64 0)) 6 a0) 7 t7_1) 8 (.int .i64 0)) H Q4
theorem h122 (S : Sys) (a0 : Value) (H : Heap) (R : Kv) : wpC S k122.body (Env.get [a0]) H (fn [(.t 2)] R) = s122 S a0 H R := by kernel_rfl
theorem w122 {S : Sys} (hR : S.R 122 = none) (hF : S.F 122 = some k122) (a0 : Value) {H : Heap} {R : Kv} (h : s122 S a0 H R) : Wf S 122 [a0] H R := Wf_sh hR hF ((h122 S
  a0 H R).mpr h)
end Go.Proofs.YtlboioplemlneaaGreat.K
