/- The functions as nested words with named values, each held against its code by the kernel. Printed by a program of this work (sh.py). -/
import Derived.Test.YtlboioplemlneaaKLowCode
set_option maxRecDepth 100000
set_option linter.unusedVariables false
namespace Go.Proofs.Ytlboioplemlneaa.K
open Go Go.Proofs
def s12 (S : Sys) (a0 a1 : Value) (H : Heap) (R : Kv) : Prop := run S (.call 46 []) [] H fun t10_1 H => run S (.un .not (.c t10_1)) [] H fun t11_2 H => jn (sq (fun e4 H
  => run S (.lenS (.c (e4 0))) [] H fun t13_5 H => run S (.bin .gtr (.c t13_5) (.c (.int .i64 200))) [] H fun t14_6 H => gd t14_6 false (run S (.mv (.c (e4 0))) [] H) H
  fun t16_7 H => gd t14_6 false (run S (.lenS (.c t16_7)) [] H) H fun t17_8 H => gd t14_6 false (run S (.bin .eql (.c t17_8) (.c (.int .i64 0))) [] H) H fun t18_9 H =>
  run S (.pick (.c t14_6) (.c (.bool true)) (.c t18_9)) [] H fun t19_10 H => jn (sq (fun e12 H => run S (.call 47 [(.c (e12 0))]) [] H fun t21_13 H => run S (.call 49
  [(.c t21_13)]) [] H fun t24_14 H => run S (.lenS (.c (e12 0))) [] H fun t26_15 H => run S (.bin .sub (.c t26_15) (.c (.int .i64 1))) [] H fun t27_16 H => run S (.call
  48 [(.c t24_14), (.c t27_16)]) [] H fun t28_17 H => run S (.xt (.c t28_17) 0) [] H fun t29_18 H => run S (.xt (.c t28_17) 1) [] H fun t30_19 H => run S (.cvt .i64 (.c
  (e12 1))) [] H fun t34_20 H => run S (.lenS (.c t21_13)) [] H fun t36_21 H => run S (.bin .rem (.c t34_20) (.c t36_21)) [] H fun t37_22 H => run S (.slS (.c t21_13)
  none (some (.c t37_22))) [] H fun t38_23 H => run S (.call 49 [(.c t38_23)]) [] H fun t39_24 H => run S (.lenS (.c (e12 0))) [] H fun t41_25 H => run S (.call 48 [(.c
  t39_24), (.c t41_25)]) [] H fun t42_26 H => run S (.xt (.c t42_26) 0) [] H fun t43_27 H => run S (.xt (.c t42_26) 1) [] H fun t44_28 H => run S (.un .not (.c t30_19))
  [] H fun t46_29 H => gd t46_29 true (run S (.mv (.c t44_28)) [] H) H fun t48_30 H => gd t46_29 true (run S (.un .not (.c t48_30)) [] H) H fun t49_31 H => run S (.pick
  (.c t46_29) (.c t49_31) (.c (.bool false))) [] H fun t50_32 H => R t50_32 H) (fn [(.t 4)] R)) fun Q11 => cnd t19_10 (fun Q33 => Q33 .ret (upd (upd (upd (upd (upd (upd
  (upd (upd (upd e4 12 (e4 0)) 13 t13_5) 14 t14_6) 15 t14_6) 16 t16_7) 17 t17_8) 18 t18_9) 19 t19_10) 4 (.bool true)) H) (fun Q34 => Q34 .normal (upd (upd (upd (upd (upd
  (upd (upd (upd e4 12 (e4 0)) 13 t13_5) 14 t14_6) 15 t14_6) 16 t16_7) 17 t17_8) 18 t18_9) 19 t19_10) H) Q11) (fn [(.t 4)] R)) fun Q3 => cnd t11_2 (fun Q35 => Q35 .ret
  (upd (upd (upd (upd (Env.get [a0, a1]) 4 (.bool false)) 10 t10_1) 11 t11_2) 4 (.bool false)) H) (fun Q36 => Q36 .normal (upd (upd (upd (Env.get [a0, a1]) 4 (.bool
  false)) 10 t10_1) 11 t11_2) H) Q3
theorem h12 (S : Sys) (a0 a1 : Value) (H : Heap) (R : Kv) : wpC S k12.body (Env.get [a0, a1]) H (fn [(.t 4)] R) = s12 S a0 a1 H R := by kernel_rfl
theorem w12 {S : Sys} (hR : S.R 12 = none) (hF : S.F 12 = some k12) (a0 a1 : Value) {H : Heap} {R : Kv} (h : s12 S a0 a1 H R) : Wf S 12 [a0, a1] H R := Wf_sh hR hF ((h12
  S a0 a1 H R).mpr h)
def s47 (S : Sys) (a0 : Value) (H : Heap) (R : Kv) : Prop := run S (.call 95 [(.c a0)]) [] H fun t7_1 H => jn (sq (fun e3 H => run S (.call 94 [(.c (e3 0))]) [] H fun
  t16_4 H => run S (.call 98 [(.c (e3 0))]) [] H fun t19_5 H => run S (.xt (.c t19_5) 0) [] H fun t20_6 H => run S (.xt (.c t19_5) 1) [] H fun t21_7 H => gd t21_7 true
  (run S (.mv (.c t20_6)) [] H) H fun t24_8 H => gd t21_7 true (run S (.lenS (.c t24_8)) [] H) H fun t25_9 H => gd t21_7 true (run S (.mv (.c t16_4)) [] H) H fun t26_10
  H => gd t21_7 true (run S (.lenS (.c t26_10)) [] H) H fun t27_11 H => gd t21_7 true (run S (.bin .lss (.c t25_9) (.c t27_11)) [] H) H fun t28_12 H => run S (.pick (.c
  t21_7) (.c t28_12) (.c (.bool false))) [] H fun t29_13 H => jn (sq (fun e15 H => R (e15 3) H) (fn [(.t 2)] R)) fun Q14 => cnd t29_13 (fun Q16 => Q16 .ret (upd (upd
  (upd (upd (upd (upd (upd (upd (upd (upd (upd (upd (upd (upd (upd (upd (upd (upd (upd (upd e3 15 (e3 0)) 16 t16_4) 3 t16_4) 18 (e3 0)) 19 t19_5) 17 t19_5) 20 t20_6) 21
  t21_7) 4 t20_6) 5 t21_7) 22 t21_7) 23 t21_7) 24 t24_8) 25 t25_9) 26 t26_10) 27 t27_11) 28 t28_12) 29 t29_13) 30 t20_6) 2 t20_6) H) (fun Q17 => Q17 .normal (upd (upd
  (upd (upd (upd (upd (upd (upd (upd (upd (upd (upd (upd (upd (upd (upd (upd (upd e3 15 (e3 0)) 16 t16_4) 3 t16_4) 18 (e3 0)) 19 t19_5) 17 t19_5) 20 t20_6) 21 t21_7) 4
  t20_6) 5 t21_7) 22 t21_7) 23 t21_7) 24 t24_8) 25 t25_9) 26 t26_10) 27 t27_11) 28 t28_12) 29 t29_13) H) Q14) (fn [(.t 2)] R)) fun Q2 => cnd t7_1 (fun Q18 => run S
  (.lenS (.c a0)) [] H fun t9_20 H => run S (.slS (.c a0) none (some (.c (.int .i64 1)))) [] H fun t12_21 H => run S (.call 96 [(.c (.int .i64 1)), (.c t9_20)]) [] H fun
  t10_22 H => run S (.call 97 [(.c t10_22), (.c t12_21)]) [] H fun t13_23 H => run S (.call 55 [(.c t13_23)]) [] H fun t14_24 H => Q18 .ret (upd (upd (upd (upd (upd (upd
  (upd (upd (upd (upd (upd (Env.get [a0]) 2 (.string (bs []))) 6 a0) 7 t7_1) 8 a0) 9 t9_20) 11 a0) 12 t12_21) 10 t10_22) 13 t13_23) 14 t14_24) 2 t14_24) H) (fun Q19 =>
  Q19 .normal (upd (upd (upd (Env.get [a0]) 2 (.string (bs []))) 6 a0) 7 t7_1) H) Q2
theorem h47 (S : Sys) (a0 : Value) (H : Heap) (R : Kv) : wpC S k47.body (Env.get [a0]) H (fn [(.t 2)] R) = s47 S a0 H R := by kernel_rfl
theorem w47 {S : Sys} (hR : S.R 47 = none) (hF : S.F 47 = some k47) (a0 : Value) {H : Heap} {R : Kv} (h : s47 S a0 H R) : Wf S 47 [a0] H R := Wf_sh hR hF ((h47 S a0 H
  R).mpr h)
def s48 (S : Sys) (a0 a1 : Value) (H : Heap) (R : Kv) : Prop := run S (.call 99 [(.c a0), (.c (.int .i64 1))]) [] H fun t11_1 H => run S (.mn (.c a1) [(.c (.int .i64
  1048576))]) [] H fun t14_2 H => run S (.call 100 [(.c a0), (.c t14_2)]) [] H fun t15_3 H => run S (.call 101 [(.c a0)]) [] H fun t17_4 H => jn (sq (fun e6 H => jn (sq
  (fun e8 H => R (tup [(.string (bs [])), (.bool false)]) H) (fn [(.t 4), (.t 5)] R)) fun Q7 => run S (.bin .eql (.c (e6 6)) (.c (.int .u64 0))) [] H fun t20_9 H => jn
  (blk 0 Q7) fun Q10 => cnd t20_9 (fun Q11 => run S (.call 102 [(.c (e6 0)), (.c (e6 7))]) [] H fun t23_13 H => run S (.call 101 [(.c (e6 0))]) [] H fun t26_14 H => run
  S (.un .not (.c t26_14)) [] H fun t27_15 H => Q11 .ret (upd (upd (upd (upd (upd (upd (upd (upd (upd (upd (upd (upd (upd e6 18 (e6 6)) 20 t20_9) 19 t20_9) 21 (e6 0)) 22
  (e6 7)) 23 t23_13) 8 t23_13) 24 t23_13) 25 (e6 0)) 26 t26_14) 27 t27_15) 4 t23_13) 5 t27_15) H) (fun Q12 => run S (.bin .eql (.c (e6 6)) (.c (.int .u64 1))) [] H fun
  t29_16 H => cnd t29_16 (fun Q17 => run S (.call 102 [(.c (e6 0)), (.c (.int .i64 1))]) [] H fun t31_19 H => run S (.call 101 [(.c (e6 0))]) [] H fun t33_20 H => jn (sq
  (fun e22 H => run S (.call 103 [(.c (e22 9)), (.c (e22 7))]) [] H fun t36_23 H => Q17 .ret (upd (upd (upd (upd (upd e22 34 (e22 9)) 35 (e22 7)) 36 t36_23) 4 t36_23) 5
  (.bool true)) H) Q17) fun Q21 => cnd t33_20 (fun Q24 => Q24 .ret (upd (upd (upd (upd (upd (upd (upd (upd (upd (upd (upd (upd e6 18 (e6 6)) 20 t20_9) 19 t20_9) 29
  t29_16) 28 t29_16) 30 (e6 0)) 31 t31_19) 9 t31_19) 32 (e6 0)) 33 t33_20) 4 (.string (bs []))) 5 (.bool false)) H) (fun Q25 => Q25 .normal (upd (upd (upd (upd (upd (upd
  (upd (upd (upd (upd e6 18 (e6 6)) 20 t20_9) 19 t20_9) 29 t29_16) 28 t29_16) 30 (e6 0)) 31 t31_19) 9 t31_19) 32 (e6 0)) 33 t33_20) H) Q21) (fun Q18 => run S (.bin .eql
  (.c (e6 6)) (.c (.int .u64 2))) [] H fun t38_26 H => cnd t38_26 (fun Q27 => run S (.call 104 [(.c (e6 0)), (.c (e6 7))]) [] H fun t41_29 H => run S (.xt (.c t41_29) 0)
  [] H fun t42_30 H => run S (.xt (.c t41_29) 1) [] H fun t43_31 H => Q27 .ret (upd (upd (upd (upd (upd (upd (upd (upd (upd (upd (upd (upd (upd (upd e6 18 (e6 6)) 20
  t20_9) 19 t20_9) 29 t29_16) 28 t29_16) 38 t38_26) 37 t38_26) 39 (e6 0)) 40 (e6 7)) 41 t41_29) 42 t42_30) 43 t43_31) 4 t42_30) 5 t43_31) H) (fun Q28 => Q28 .normal (upd
  (upd (upd (upd (upd (upd (upd e6 18 (e6 6)) 20 t20_9) 19 t20_9) 29 t29_16) 28 t29_16) 38 t38_26) 37 t38_26) H) Q18) Q12) Q10) (fn [(.t 4), (.t 5)] R)) fun Q5 => cnd
  t17_4 (fun Q32 => Q32 .ret (upd (upd (upd (upd (upd (upd (upd (upd (upd (upd (upd (upd (upd (upd (Env.get [a0, a1]) 4 (.string (bs []))) 5 (.bool false)) 10 a0) 11
  t11_1) 6 t11_1) 12 a0) 13 a1) 14 t14_2) 15 t15_3) 7 t15_3) 16 a0) 17 t17_4) 4 (.string (bs []))) 5 (.bool false)) H) (fun Q33 => Q33 .normal (upd (upd (upd (upd (upd
  (upd (upd (upd (upd (upd (upd (upd (Env.get [a0, a1]) 4 (.string (bs []))) 5 (.bool false)) 10 a0) 11 t11_1) 6 t11_1) 12 a0) 13 a1) 14 t14_2) 15 t15_3) 7 t15_3) 16 a0)
  17 t17_4) H) Q5
theorem h48 (S : Sys) (a0 a1 : Value) (H : Heap) (R : Kv) : wpC S k48.body (Env.get [a0, a1]) H (fn [(.t 4), (.t 5)] R) = s48 S a0 a1 H R := by kernel_rfl
theorem w48 {S : Sys} (hR : S.R 48 = none) (hF : S.F 48 = some k48) (a0 a1 : Value) {H : Heap} {R : Kv} (h : s48 S a0 a1 H R) : Wf S 48 [a0, a1] H R := Wf_sh hR hF ((h48
  S a0 a1 H R).mpr h)
def s49 (S : Sys) (a0 : Value) (H : Heap) (R : Kv) : Prop := run S (.build [(.string (bs [])), (.bool false)] [(0, (1, (.c a0)))]) [] H fun t4_1 H => run S (.box 134 (.c
  t4_1)) [] H fun t5_2 H => R t5_2 H
theorem h49 (S : Sys) (a0 : Value) (H : Heap) (R : Kv) : wpC S k49.body (Env.get [a0]) H (fn [(.t 2)] R) = s49 S a0 H R := by kernel_rfl
theorem w49 {S : Sys} (hR : S.R 49 = none) (hF : S.F 49 = some k49) (a0 : Value) {H : Heap} {R : Kv} (h : s49 S a0 H R) : Wf S 49 [a0] H R := Wf_sh hR hF ((h49 S a0 H
  R).mpr h)
def b50_0 : KCode := (.seq (.seq (.reg [(.op (some 4) none (.mv (.t 0))), (.op (some 5) none (.bin .geq (.t 4) (.c (.int .u64 128))))]) (.cond (.t 5) .skip (.exit 0)))
  (.block 1 (.seq (.reg [(.op (some 6) none (.mv (.t 3))), (.op (some 7) none (.mv (.t 0))), (.op (some 8) none (.bin .rem (.t 7) (.c (.int .u64 128)))), (.op (some 9)
  none (.bin .add (.t 8) (.c (.int .u64 128)))), (.op (some 10) none (.cvt .u8 (.t 9))), (.op (some 11) none (.bsl 5 1 [(.int .u8 0)] [(0, (1, (.t 10)))])), (.op (some
  12) none (.b2s 5 (.t 11))), (.op (some 13) none (.bin .add (.t 6) (.t 12))), (.op (some 3) none (.mv (.t 13)))]) (.reg [(.op (some 14) none (.mv (.t 0))), (.op (some
  15) none (.bin .quo (.t 14) (.c (.int .u64 128)))), (.op (some 0) none (.mv (.t 15)))]))))
def s50_0 (S : Sys) (e : Fe) (H : Heap) (Q : Kx) : Prop := run S (.bin .geq (.c (e 0)) (.c (.int .u64 128))) [] H fun t5_8 H => jn (sq (fun e10 H => run S (.bin .rem (.c
  (e10 0)) (.c (.int .u64 128))) [] H fun t8_11 H => run S (.bin .add (.c t8_11) (.c (.int .u64 128))) [] H fun t9_12 H => run S (.cvt .u8 (.c t9_12)) [] H fun t10_13 H
  => run S (.bsl 5 1 [(.int .u8 0)] [(0, (1, (.c t10_13)))]) [] H fun t11_14 H => run S (.b2s 5 (.c t11_14)) [] H fun t12_15 H => run S (.bin .add (.c (e10 3)) (.c
  t12_15)) [] H fun t13_16 H => run S (.bin .quo (.c (e10 0)) (.c (.int .u64 128))) [] H fun t15_17 H => Q .normal (upd (upd (upd (upd (upd (upd (upd (upd (upd (upd (upd
  (upd e10 6 (e10 3)) 7 (e10 0)) 8 t8_11) 9 t9_12) 10 t10_13) 11 t11_14) 12 t12_15) 13 t13_16) 3 t13_16) 14 (e10 0)) 15 t15_17) 0 t15_17) H) Q) fun Q9 => cnd t5_8 (fun
  Q18 => Q18 .normal (upd (upd e 4 (e 0)) 5 t5_8) H) (fun Q19 => Q19 (.exit 0) (upd (upd e 4 (e 0)) 5 t5_8) H) Q9
theorem h50_0 (S : Sys) (e : Fe) (H : Heap) (Q : Kx) : wpC S b50_0 e H Q = s50_0 S e H Q := by kernel_rfl
theorem l50_0 (S : Sys) {Q : Kx} (I : Nat → Fe → Heap → Prop) (d : Nat) {e0 : Fe} {H : Heap} (h0 : I d e0 H) (hr : ∀ (d : Nat) (e : Fe) (H : Heap), I d e H → s50_0 S e H
  (sq (fun e' H' => ∃ d', d' < d ∧ I d' e' H') Q)) : WL S b50_0 e0 H Q := WL_inv I d h0 fun d e H hi => (h50_0 S e H _).mpr (hr d e H hi)
theorem u50_0 (S : Sys) {Q : Kx} {e : Fe} {H : Heap} (h : s50_0 S e H (sq (fun e' H' => WL S b50_0 e' H' Q) Q)) : WL S b50_0 e H Q := WL_once ((h50_0 S e H _).mpr h)
def s50 (S : Sys) (a0 : Value) (H : Heap) (R : Kv) : Prop := jn (sq (fun e2 H => run S (.cvt .u8 (.c (e2 0))) [] H fun t18_3 H => run S (.bsl 5 1 [(.int .u8 0)] [(0, (1,
  (.c t18_3)))]) [] H fun t19_4 H => run S (.b2s 5 (.c t19_4)) [] H fun t20_5 H => run S (.bin .add (.c (e2 3)) (.c t20_5)) [] H fun t21_6 H => R t21_6 H) (fn [(.t 2)]
  R)) fun Q1 => jn (blk 0 Q1) fun Q7 => WL S b50_0 (upd (upd (Env.get [a0]) 2 (.string (bs []))) 3 (.string (bs []))) H Q7
theorem h50 (S : Sys) (a0 : Value) (H : Heap) (R : Kv) : wpC S k50.body (Env.get [a0]) H (fn [(.t 2)] R) = s50 S a0 H R := by kernel_rfl
theorem w50 {S : Sys} (hR : S.R 50 = none) (hF : S.F 50 = some k50) (a0 : Value) {H : Heap} {R : Kv} (h : s50 S a0 H R) : Wf S 50 [a0] H R := Wf_sh hR hF ((h50 S a0 H
  R).mpr h)
def s51 (S : Sys) (a0 : Value) (H : Heap) (R : Kv) : Prop := run S (.lenS (.c a0)) [] H fun t4_1 H => run S (.cvt .u64 (.c t4_1)) [] H fun t5_2 H => run S (.call 50 [(.c
  t5_2)]) [] H fun t6_3 H => run S (.bin .add (.c t6_3) (.c a0)) [] H fun t8_4 H => R t8_4 H
theorem h51 (S : Sys) (a0 : Value) (H : Heap) (R : Kv) : wpC S k51.body (Env.get [a0]) H (fn [(.t 2)] R) = s51 S a0 H R := by kernel_rfl
theorem w51 {S : Sys} (hR : S.R 51 = none) (hF : S.F 51 = some k51) (a0 : Value) {H : Heap} {R : Kv} (h : s51 S a0 H R) : Wf S 51 [a0] H R := Wf_sh hR hF ((h51 S a0 H
  R).mpr h)
def b52_0 : KCode := (.seq (.reg [(.op (some 12) none (.bin .lss (.t 11) (.t 10)))]) (.seq (.cond (.t 12) .skip (.exit 0)) (.seq (.block 1 (.seq (.reg [(.op (some 13)
  none (.mv (.t 0))), (.op (some 14) none (.mv (.t 0))), (.op (some 15) none (.nck (.t 14))), (.op (some 16) none (.fad 0 (.t 15))), (.op (some 17) none (.ld (.t 16))),
  (.op (some 18) none (.mv (.t 1))), (.op (some 19) none (.cvt .u8 (.t 18))), (.op (some 20) none (.bsl 5 1 [(.int .u8 0)] [(0, (1, (.t 19)))])), (.op (some 21) none
  (.app 5 1 1 (.t 17) (.t 20))), (.op (some 22) none (.nck (.t 13))), (.op (some 23) none (.fad 0 (.t 22))), (.op none none (.st (.t 23) (.t 21)))]) (.reg [(.op (some
  24) none (.mv (.t 1))), (.op (some 25) none (.bin .shr (.t 24) (.c (.int .u64 8)))), (.op (some 1) none (.mv (.t 25)))]))) (.reg [(.op (some 26) none (.bin .add (.t
  11) (.c (.int .i64 1)))), (.op (some 11) none (.mv (.t 26)))]))))
def s52_0 (S : Sys) (e : Fe) (H : Heap) (Q : Kx) : Prop := run S (.bin .lss (.c (e 11)) (.c (e 10))) [] H fun t12_10 H => jn (sq (fun e12 H => jn (sq (fun e14 H => run S
  (.bin .add (.c (e14 11)) (.c (.int .i64 1))) [] H fun t26_15 H => Q .normal (upd (upd e14 26 t26_15) 11 t26_15) H) Q) fun Q13 => run S (.nck (.c (e12 0))) [] H fun
  t15_16 H => run S (.fad 0 (.c t15_16)) [] H fun t16_17 H => run S (.ld (.c t16_17)) [] H fun t17_18 H => run S (.cvt .u8 (.c (e12 1))) [] H fun t19_19 H => run S (.bsl
  5 1 [(.int .u8 0)] [(0, (1, (.c t19_19)))]) [] H fun t20_20 H => run S (.app 5 1 1 (.c t17_18) (.c t20_20)) [] H fun t21_21 H => run S (.nck (.c (e12 0))) [] H fun
  t22_22 H => run S (.fad 0 (.c t22_22)) [] H fun t23_23 H => run S (.st (.c t23_23) (.c t21_21)) [] H fun _ H => run S (.bin .shr (.c (e12 1)) (.c (.int .u64 8))) [] H
  fun t25_24 H => Q13 .normal (upd (upd (upd (upd (upd (upd (upd (upd (upd (upd (upd (upd (upd (upd e12 13 (e12 0)) 14 (e12 0)) 15 t15_16) 16 t16_17) 17 t17_18) 18 (e12
  1)) 19 t19_19) 20 t20_20) 21 t21_21) 22 t22_22) 23 t23_23) 24 (e12 1)) 25 t25_24) 1 t25_24) H) Q) fun Q11 => cnd t12_10 (fun Q25 => Q25 .normal (upd e 12 t12_10) H)
  (fun Q26 => Q26 (.exit 0) (upd e 12 t12_10) H) Q11
theorem h52_0 (S : Sys) (e : Fe) (H : Heap) (Q : Kx) : wpC S b52_0 e H Q = s52_0 S e H Q := by kernel_rfl
theorem l52_0 (S : Sys) {Q : Kx} (I : Nat → Fe → Heap → Prop) (d : Nat) {e0 : Fe} {H : Heap} (h0 : I d e0 H) (hr : ∀ (d : Nat) (e : Fe) (H : Heap), I d e H → s52_0 S e H
  (sq (fun e' H' => ∃ d', d' < d ∧ I d' e' H') Q)) : WL S b52_0 e0 H Q := WL_inv I d h0 fun d e H hi => (h52_0 S e H _).mpr (hr d e H hi)
theorem u52_0 (S : Sys) {Q : Kx} {e : Fe} {H : Heap} (h : s52_0 S e H (sq (fun e' H' => WL S b52_0 e' H' Q) Q)) : WL S b52_0 e H Q := WL_once ((h52_0 S e H _).mpr h)
def s52 (S : Sys) (a0 a1 a2 : Value) (H : Heap) (R : Kv) : Prop := run S (.eqv .ptr false (.c a0) (.c (.pointer none))) [] H fun t8_1 H => jn (sq (fun e3 H => run S
  (.call 105 [(.c (e3 2))]) [] H fun t10_4 H => jn (sq (fun e6 H => R (e6 0) H) (fn [(.t 6)] R)) fun Q5 => jn (blk 0 Q5) fun Q7 => WL S b52_0 (upd (upd (upd e3 9 (e3 2))
  10 t10_4) 11 (.int .i64 0)) H Q7) (fn [(.t 6)] R)) fun Q2 => cnd t8_1 (fun Q8 => Q8 .ret (upd (upd (upd (upd (Env.get [a0, a1, a2]) 6 (.pointer none)) 7 a0) 8 t8_1) 6
  (.pointer none)) H) (fun Q9 => Q9 .normal (upd (upd (upd (Env.get [a0, a1, a2]) 6 (.pointer none)) 7 a0) 8 t8_1) H) Q2
theorem h52 (S : Sys) (a0 a1 a2 : Value) (H : Heap) (R : Kv) : wpC S k52.body (Env.get [a0, a1, a2]) H (fn [(.t 6)] R) = s52 S a0 a1 a2 H R := by kernel_rfl
theorem w52 {S : Sys} (hR : S.R 52 = none) (hF : S.F 52 = some k52) (a0 a1 a2 : Value) {H : Heap} {R : Kv} (h : s52 S a0 a1 a2 H R) : Wf S 52 [a0, a1, a2] H R := Wf_sh
  hR hF ((h52 S a0 a1 a2 H R).mpr h)
def b53_0 : KCode := (.seq (.seq (.reg [(.op (some 7) none (.mv (.t 1))), (.op (some 8) none (.bin .gtr (.t 7) (.c (.int .u64 127))))]) (.cond (.t 8) .skip (.exit 0)))
  (.block 1 (.seq (.reg [(.op (some 9) none (.mv (.t 0))), (.op (some 10) none (.mv (.t 0))), (.op (some 11) none (.nck (.t 10))), (.op (some 12) none (.fad 0 (.t 11))),
  (.op (some 13) none (.ld (.t 12))), (.op (some 14) none (.mv (.t 1))), (.op (some 15) none (.cvt .u8 (.t 14))), (.op (some 16) none (.bin .or (.t 15) (.c (.int .u8
  128)))), (.op (some 17) none (.bsl 5 1 [(.int .u8 0)] [(0, (1, (.t 16)))])), (.op (some 18) none (.app 5 1 1 (.t 13) (.t 17))), (.op (some 19) none (.nck (.t 9))),
  (.op (some 20) none (.fad 0 (.t 19))), (.op none none (.st (.t 20) (.t 18)))]) (.reg [(.op (some 21) none (.mv (.t 1))), (.op (some 22) none (.bin .shr (.t 21) (.c
  (.int .u64 7)))), (.op (some 1) none (.mv (.t 22)))]))))
def s53_0 (S : Sys) (e : Fe) (H : Heap) (Q : Kx) : Prop := run S (.bin .gtr (.c (e 1)) (.c (.int .u64 127))) [] H fun t8_17 H => jn (sq (fun e19 H => run S (.nck (.c
  (e19 0))) [] H fun t11_20 H => run S (.fad 0 (.c t11_20)) [] H fun t12_21 H => run S (.ld (.c t12_21)) [] H fun t13_22 H => run S (.cvt .u8 (.c (e19 1))) [] H fun
  t15_23 H => run S (.bin .or (.c t15_23) (.c (.int .u8 128))) [] H fun t16_24 H => run S (.bsl 5 1 [(.int .u8 0)] [(0, (1, (.c t16_24)))]) [] H fun t17_25 H => run S
  (.app 5 1 1 (.c t13_22) (.c t17_25)) [] H fun t18_26 H => run S (.nck (.c (e19 0))) [] H fun t19_27 H => run S (.fad 0 (.c t19_27)) [] H fun t20_28 H => run S (.st (.c
  t20_28) (.c t18_26)) [] H fun _ H => run S (.bin .shr (.c (e19 1)) (.c (.int .u64 7))) [] H fun t22_29 H => Q .normal (upd (upd (upd (upd (upd (upd (upd (upd (upd (upd
  (upd (upd (upd (upd (upd e19 9 (e19 0)) 10 (e19 0)) 11 t11_20) 12 t12_21) 13 t13_22) 14 (e19 1)) 15 t15_23) 16 t16_24) 17 t17_25) 18 t18_26) 19 t19_27) 20 t20_28) 21
  (e19 1)) 22 t22_29) 1 t22_29) H) Q) fun Q18 => cnd t8_17 (fun Q30 => Q30 .normal (upd (upd e 7 (e 1)) 8 t8_17) H) (fun Q31 => Q31 (.exit 0) (upd (upd e 7 (e 1)) 8
  t8_17) H) Q18
theorem h53_0 (S : Sys) (e : Fe) (H : Heap) (Q : Kx) : wpC S b53_0 e H Q = s53_0 S e H Q := by kernel_rfl
theorem l53_0 (S : Sys) {Q : Kx} (I : Nat → Fe → Heap → Prop) (d : Nat) {e0 : Fe} {H : Heap} (h0 : I d e0 H) (hr : ∀ (d : Nat) (e : Fe) (H : Heap), I d e H → s53_0 S e H
  (sq (fun e' H' => ∃ d', d' < d ∧ I d' e' H') Q)) : WL S b53_0 e0 H Q := WL_inv I d h0 fun d e H hi => (h53_0 S e H _).mpr (hr d e H hi)
theorem u53_0 (S : Sys) {Q : Kx} {e : Fe} {H : Heap} (h : s53_0 S e H (sq (fun e' H' => WL S b53_0 e' H' Q) Q)) : WL S b53_0 e H Q := WL_once ((h53_0 S e H _).mpr h)
def s53 (S : Sys) (a0 a1 : Value) (H : Heap) (R : Kv) : Prop := run S (.eqv .ptr false (.c a0) (.c (.pointer none))) [] H fun t6_1 H => jn (sq (fun e3 H => jn (sq (fun
  e5 H => run S (.nck (.c (e5 0))) [] H fun t25_6 H => run S (.fad 0 (.c t25_6)) [] H fun t26_7 H => run S (.ld (.c t26_7)) [] H fun t27_8 H => run S (.cvt .u8 (.c (e5
  1))) [] H fun t29_9 H => run S (.bsl 5 1 [(.int .u8 0)] [(0, (1, (.c t29_9)))]) [] H fun t30_10 H => run S (.app 5 1 1 (.c t27_8) (.c t30_10)) [] H fun t31_11 H => run
  S (.nck (.c (e5 0))) [] H fun t32_12 H => run S (.fad 0 (.c t32_12)) [] H fun t33_13 H => run S (.st (.c t33_13) (.c t31_11)) [] H fun _ H => R (e5 0) H) (fn [(.t 4)]
  R)) fun Q4 => jn (blk 0 Q4) fun Q14 => WL S b53_0 e3 H Q14) (fn [(.t 4)] R)) fun Q2 => cnd t6_1 (fun Q15 => Q15 .ret (upd (upd (upd (upd (Env.get [a0, a1]) 4 (.pointer
  none)) 5 a0) 6 t6_1) 4 (.pointer none)) H) (fun Q16 => Q16 .normal (upd (upd (upd (Env.get [a0, a1]) 4 (.pointer none)) 5 a0) 6 t6_1) H) Q2
theorem h53 (S : Sys) (a0 a1 : Value) (H : Heap) (R : Kv) : wpC S k53.body (Env.get [a0, a1]) H (fn [(.t 4)] R) = s53 S a0 a1 H R := by kernel_rfl
theorem w53 {S : Sys} (hR : S.R 53 = none) (hF : S.F 53 = some k53) (a0 a1 : Value) {H : Heap} {R : Kv} (h : s53 S a0 a1 H R) : Wf S 53 [a0, a1] H R := Wf_sh hR hF ((h53
  S a0 a1 H R).mpr h)
def s54 (S : Sys) (a0 a1 : Value) (H : Heap) (R : Kv) : Prop := run S (.lenS (.c a1)) [] H fun t7_1 H => run S (.cvt .u64 (.c t7_1)) [] H fun t8_2 H => run S (.call 53
  [(.c a0), (.c t8_2)]) [] H fun t9_3 H => run S (.call 97 [(.c t9_3), (.c a1)]) [] H fun t11_4 H => R t11_4 H
theorem h54 (S : Sys) (a0 a1 : Value) (H : Heap) (R : Kv) : wpC S k54.body (Env.get [a0, a1]) H (fn [(.t 4)] R) = s54 S a0 a1 H R := by kernel_rfl
theorem w54 {S : Sys} (hR : S.R 54 = none) (hF : S.F 54 = some k54) (a0 a1 : Value) {H : Heap} {R : Kv} (h : s54 S a0 a1 H R) : Wf S 54 [a0, a1] H R := Wf_sh hR hF ((h54
  S a0 a1 H R).mpr h)
def s55 (S : Sys) (a0 : Value) (H : Heap) (R : Kv) : Prop := run S (.eqv .ptr false (.c a0) (.c (.pointer none))) [] H fun t4_1 H => jn (sq (fun e3 H => run S (.nck (.c
  (e3 0))) [] H fun t6_4 H => run S (.fad 0 (.c t6_4)) [] H fun t7_5 H => run S (.ld (.c t7_5)) [] H fun t8_6 H => run S (.b2s 5 (.c t8_6)) [] H fun t9_7 H => R t9_7 H)
  (fn [(.t 2)] R)) fun Q2 => cnd t4_1 (fun Q8 => Q8 .ret (upd (upd (upd (upd (Env.get [a0]) 2 (.string (bs []))) 3 a0) 4 t4_1) 2 (.string (bs []))) H) (fun Q9 => Q9
  .normal (upd (upd (upd (Env.get [a0]) 2 (.string (bs []))) 3 a0) 4 t4_1) H) Q2
theorem h55 (S : Sys) (a0 : Value) (H : Heap) (R : Kv) : wpC S k55.body (Env.get [a0]) H (fn [(.t 2)] R) = s55 S a0 H R := by kernel_rfl
theorem w55 {S : Sys} (hR : S.R 55 = none) (hF : S.F 55 = some k55) (a0 : Value) {H : Heap} {R : Kv} (h : s55 S a0 H R) : Wf S 55 [a0] H R := Wf_sh hR hF ((h55 S a0 H
  R).mpr h)
def s57 (S : Sys) (a0 : Value) (H : Heap) (R : Kv) : Prop := run S (.call 101 [(.c a0)]) [] H fun t4_1 H => jn (sq (fun e3 H => run S (.nck (.c (e3 0))) [] H fun t7_4 H
  => run S (.fad 0 (.c t7_4)) [] H fun t8_5 H => run S (.ld (.c t8_5)) [] H fun t9_6 H => run S (.lenS (.c t9_6)) [] H fun t10_7 H => run S (.call 102 [(.c (e3 0)), (.c
  t10_7)]) [] H fun t11_8 H => R t11_8 H) (fn [(.t 2)] R)) fun Q2 => cnd t4_1 (fun Q9 => Q9 .ret (upd (upd (upd (upd (Env.get [a0]) 2 (.string (bs []))) 3 a0) 4 t4_1) 2
  (.string (bs []))) H) (fun Q10 => Q10 .normal (upd (upd (upd (Env.get [a0]) 2 (.string (bs []))) 3 a0) 4 t4_1) H) Q2
theorem h57 (S : Sys) (a0 : Value) (H : Heap) (R : Kv) : wpC S k57.body (Env.get [a0]) H (fn [(.t 2)] R) = s57 S a0 H R := by kernel_rfl
theorem w57 {S : Sys} (hR : S.R 57 = none) (hF : S.F 57 = some k57) (a0 : Value) {H : Heap} {R : Kv} (h : s57 S a0 H R) : Wf S 57 [a0] H R := Wf_sh hR hF ((h57 S a0 H
  R).mpr h)
def b58_1 : KCode := (.seq (.seq (.reg [(.op (some 7) none (.mv (.t 4))), (.op (some 8) none (.mv (.t 0))), (.op (some 9) none (.lenS (.t 8))), (.op (some 10) none (.bin
  .lss (.t 7) (.t 9))), (.op (some 11) none (.mv (.t 10))), (.op (some 12) (some (11, true)) (.mv (.t 0))), (.op (some 13) (some (11, true)) (.mv (.t 4))), (.op (some
  14) (some (11, true)) (.idS (.t 12) (.t 13))), (.op (some 15) (some (11, true)) (.bin .geq (.t 14) (.c (.int .u8 128)))), (.op (some 16) none (.pick (.t 11) (.t 15)
  (.c (.bool false))))]) (.cond (.t 16) .skip (.exit 0))) (.block 1 (.reg [(.op (some 17) none (.mv (.t 4))), (.op (some 18) none (.bin .add (.t 17) (.c (.int .i64
  1)))), (.op (some 4) none (.mv (.t 18)))])))
def s58_1 (S : Sys) (e : Fe) (H : Heap) (Q : Kx) : Prop := run S (.lenS (.c (e 0))) [] H fun t9_44 H => run S (.bin .lss (.c (e 4)) (.c t9_44)) [] H fun t10_45 H => gd
  t10_45 true (run S (.mv (.c (e 0))) [] H) H fun t12_46 H => gd t10_45 true (run S (.mv (.c (e 4))) [] H) H fun t13_47 H => gd t10_45 true (run S (.idS (.c t12_46) (.c
  t13_47)) [] H) H fun t14_48 H => gd t10_45 true (run S (.bin .geq (.c t14_48) (.c (.int .u8 128))) [] H) H fun t15_49 H => run S (.pick (.c t10_45) (.c t15_49) (.c
  (.bool false))) [] H fun t16_50 H => jn (sq (fun e52 H => run S (.bin .add (.c (e52 4)) (.c (.int .i64 1))) [] H fun t18_53 H => Q .normal (upd (upd (upd e52 17 (e52
  4)) 18 t18_53) 4 t18_53) H) Q) fun Q51 => cnd t16_50 (fun Q54 => Q54 .normal (upd (upd (upd (upd (upd (upd (upd (upd (upd (upd e 7 (e 4)) 8 (e 0)) 9 t9_44) 10 t10_45)
  11 t10_45) 12 t12_46) 13 t13_47) 14 t14_48) 15 t15_49) 16 t16_50) H) (fun Q55 => Q55 (.exit 0) (upd (upd (upd (upd (upd (upd (upd (upd (upd (upd e 7 (e 4)) 8 (e 0)) 9
  t9_44) 10 t10_45) 11 t10_45) 12 t12_46) 13 t13_47) 14 t14_48) 15 t15_49) 16 t16_50) H) Q51
theorem h58_1 (S : Sys) (e : Fe) (H : Heap) (Q : Kx) : wpC S b58_1 e H Q = s58_1 S e H Q := by kernel_rfl
theorem l58_1 (S : Sys) {Q : Kx} (I : Nat → Fe → Heap → Prop) (d : Nat) {e0 : Fe} {H : Heap} (h0 : I d e0 H) (hr : ∀ (d : Nat) (e : Fe) (H : Heap), I d e H → s58_1 S e H
  (sq (fun e' H' => ∃ d', d' < d ∧ I d' e' H') Q)) : WL S b58_1 e0 H Q := WL_inv I d h0 fun d e H hi => (h58_1 S e H _).mpr (hr d e H hi)
theorem u58_1 (S : Sys) {Q : Kx} {e : Fe} {H : Heap} (h : s58_1 S e H (sq (fun e' H' => WL S b58_1 e' H' Q) Q)) : WL S b58_1 e H Q := WL_once ((h58_1 S e H _).mpr h)
def b58_0 : KCode := (.seq (.seq (.reg [(.op (some 28) none (.mv (.t 6))), (.op (some 29) none (.bin .geq (.t 28) (.c (.int .i64 0))))]) (.cond (.t 29) .skip (.exit 2)))
  (.seq (.block 3 (.seq (.seq (.reg [(.op (some 32) none (.mv (.t 5))), (.op (some 33) none (.bin .gtr (.t 32) (.c (.int .u64 144115188075855871))))]) (.cond (.t 33)
  (.seq (.reg [(.op (some 2) none (.mv (.c (.int .u64 0)))), (.op (some 3) none (.mv (.c (.int .i64 0))))]) .ret) .skip)) (.reg [(.op (some 34) none (.mv (.t 5))), (.op
  (some 35) none (.bin .mul (.t 34) (.c (.int .u64 128)))), (.op (some 36) none (.mv (.t 0))), (.op (some 37) none (.mv (.t 6))), (.op (some 38) none (.idS (.t 36) (.t
  37))), (.op (some 39) none (.bin .rem (.t 38) (.c (.int .u8 128)))), (.op (some 40) none (.cvt .u64 (.t 39))), (.op (some 41) none (.bin .add (.t 35) (.t 40))), (.op
  (some 5) none (.mv (.t 41)))]))) (.reg [(.op (some 30) none (.mv (.t 6))), (.op (some 31) none (.bin .sub (.t 30) (.c (.int .i64 1)))), (.op (some 6) none (.mv (.t
  31)))])))
def s58_0 (S : Sys) (e : Fe) (H : Heap) (Q : Kx) : Prop := run S (.bin .geq (.c (e 6)) (.c (.int .i64 0))) [] H fun t29_25 H => jn (sq (fun e27 H => jn (sq (fun e29 H =>
  run S (.bin .sub (.c (e29 6)) (.c (.int .i64 1))) [] H fun t31_30 H => Q .normal (upd (upd (upd e29 30 (e29 6)) 31 t31_30) 6 t31_30) H) Q) fun Q28 => run S (.bin .gtr
  (.c (e27 5)) (.c (.int .u64 144115188075855871))) [] H fun t33_31 H => jn (blk 3 Q28) fun Q32 => jn (sq (fun e34 H => run S (.bin .mul (.c (e34 5)) (.c (.int .u64
  128))) [] H fun t35_35 H => run S (.idS (.c (e34 0)) (.c (e34 6))) [] H fun t38_36 H => run S (.bin .rem (.c t38_36) (.c (.int .u8 128))) [] H fun t39_37 H => run S
  (.cvt .u64 (.c t39_37)) [] H fun t40_38 H => run S (.bin .add (.c t35_35) (.c t40_38)) [] H fun t41_39 H => Q32 .normal (upd (upd (upd (upd (upd (upd (upd (upd (upd
  e34 34 (e34 5)) 35 t35_35) 36 (e34 0)) 37 (e34 6)) 38 t38_36) 39 t39_37) 40 t40_38) 41 t41_39) 5 t41_39) H) Q32) fun Q33 => cnd t33_31 (fun Q40 => Q40 .ret (upd (upd
  (upd (upd e27 32 (e27 5)) 33 t33_31) 2 (.int .u64 0)) 3 (.int .i64 0)) H) (fun Q41 => Q41 .normal (upd (upd e27 32 (e27 5)) 33 t33_31) H) Q33) Q) fun Q26 => cnd t29_25
  (fun Q42 => Q42 .normal (upd (upd e 28 (e 6)) 29 t29_25) H) (fun Q43 => Q43 (.exit 2) (upd (upd e 28 (e 6)) 29 t29_25) H) Q26
theorem h58_0 (S : Sys) (e : Fe) (H : Heap) (Q : Kx) : wpC S b58_0 e H Q = s58_0 S e H Q := by kernel_rfl
theorem l58_0 (S : Sys) {Q : Kx} (I : Nat → Fe → Heap → Prop) (d : Nat) {e0 : Fe} {H : Heap} (h0 : I d e0 H) (hr : ∀ (d : Nat) (e : Fe) (H : Heap), I d e H → s58_0 S e H
  (sq (fun e' H' => ∃ d', d' < d ∧ I d' e' H') Q)) : WL S b58_0 e0 H Q := WL_inv I d h0 fun d e H hi => (h58_0 S e H _).mpr (hr d e H hi)
theorem u58_0 (S : Sys) {Q : Kx} {e : Fe} {H : Heap} (h : s58_0 S e H (sq (fun e' H' => WL S b58_0 e' H' Q) Q)) : WL S b58_0 e H Q := WL_once ((h58_0 S e H _).mpr h)
def s58 (S : Sys) (a0 : Value) (H : Heap) (R : Kv) : Prop := jn (sq (fun e2 H => run S (.lenS (.c (e2 0))) [] H fun t21_3 H => run S (.bin .eql (.c (e2 4)) (.c t21_3))
  [] H fun t22_4 H => gd t22_4 false (run S (.mv (.c (e2 4))) [] H) H fun t24_5 H => gd t22_4 false (run S (.bin .gtr (.c t24_5) (.c (.int .i64 9))) [] H) H fun t25_6 H
  => run S (.pick (.c t22_4) (.c (.bool true)) (.c t25_6)) [] H fun t26_7 H => jn (sq (fun e9 H => jn (sq (fun e11 H => run S (.bin .add (.c (e11 4)) (.c (.int .i64 1)))
  [] H fun t46_12 H => run S (.slS (.c (e11 0)) none (some (.c t46_12))) [] H fun t47_13 H => run S (.call 50 [(.c (e11 5))]) [] H fun t43_14 H => run S (.bin .neq (.c
  t43_14) (.c t47_13)) [] H fun t48_15 H => jn (sq (fun e17 H => run S (.bin .add (.c (e17 4)) (.c (.int .i64 1))) [] H fun t51_18 H => R (tup [(e17 5), t51_18]) H) (fn
  [(.t 2), (.t 3)] R)) fun Q16 => cnd t48_15 (fun Q19 => Q19 .ret (upd (upd (upd (upd (upd (upd (upd (upd (upd e11 42 (e11 5)) 44 (e11 0)) 45 (e11 4)) 46 t46_12) 47
  t47_13) 43 t43_14) 48 t48_15) 2 (.int .u64 0)) 3 (.int .i64 0)) H) (fun Q20 => Q20 .normal (upd (upd (upd (upd (upd (upd (upd e11 42 (e11 5)) 44 (e11 0)) 45 (e11 4))
  46 t46_12) 47 t47_13) 43 t43_14) 48 t48_15) H) Q16) (fn [(.t 2), (.t 3)] R)) fun Q10 => jn (blk 2 Q10) fun Q21 => WL S b58_0 (upd (upd (upd e9 5 (.int .u64 0)) 27 (e9
  4)) 6 (e9 4)) H Q21) (fn [(.t 2), (.t 3)] R)) fun Q8 => cnd t26_7 (fun Q22 => Q22 .ret (upd (upd (upd (upd (upd (upd (upd (upd (upd (upd e2 19 (e2 4)) 20 (e2 0)) 21
  t21_3) 22 t22_4) 23 t22_4) 24 t24_5) 25 t25_6) 26 t26_7) 2 (.int .u64 0)) 3 (.int .i64 0)) H) (fun Q23 => Q23 .normal (upd (upd (upd (upd (upd (upd (upd (upd e2 19 (e2
  4)) 20 (e2 0)) 21 t21_3) 22 t22_4) 23 t22_4) 24 t24_5) 25 t25_6) 26 t26_7) H) Q8) (fn [(.t 2), (.t 3)] R)) fun Q1 => jn (blk 0 Q1) fun Q24 => WL S b58_1 (upd (upd (upd
  (Env.get [a0]) 2 (.int .u64 0)) 3 (.int .i64 0)) 4 (.int .i64 0)) H Q24
theorem h58 (S : Sys) (a0 : Value) (H : Heap) (R : Kv) : wpC S k58.body (Env.get [a0]) H (fn [(.t 2), (.t 3)] R) = s58 S a0 H R := by kernel_rfl
theorem w58 {S : Sys} (hR : S.R 58 = none) (hF : S.F 58 = some k58) (a0 : Value) {H : Heap} {R : Kv} (h : s58 S a0 H R) : Wf S 58 [a0] H R := Wf_sh hR hF ((h58 S a0 H
  R).mpr h)
def s94 (S : Sys) (a0 : Value) (H : Heap) (R : Kv) : Prop := run S (.lenS (.c a0)) [] H fun t4_1 H => run S (.call 96 [(.c (.int .i64 0)), (.c t4_1)]) [] H fun t5_2 H =>
  run S (.call 97 [(.c t5_2), (.c a0)]) [] H fun t7_3 H => run S (.call 55 [(.c t7_3)]) [] H fun t8_4 H => R t8_4 H
theorem h94 (S : Sys) (a0 : Value) (H : Heap) (R : Kv) : wpC S k94.body (Env.get [a0]) H (fn [(.t 2)] R) = s94 S a0 H R := by kernel_rfl
theorem w94 {S : Sys} (hR : S.R 94 = none) (hF : S.F 94 = some k94) (a0 : Value) {H : Heap} {R : Kv} (h : s94 S a0 H R) : Wf S 94 [a0] H R := Wf_sh hR hF ((h94 S a0 H
  R).mpr h)
def s95 (S : Sys) (a0 : Value) (H : Heap) (R : Kv) : Prop := run S (.bin .neq (.c a0) (.c (.string (bs [])))) [] H fun t4_1 H => gd t4_1 true (run S (.mv (.c a0)) [] H)
  H fun t6_2 H => gd t4_1 true (run S (.mv (.c a0)) [] H) H fun t7_3 H => gd t4_1 true (run S (.slS (.c t7_3) none (some (.c (.int .i64 1)))) [] H) H fun t8_4 H => gd
  t4_1 true (run S (.mv (.c a0)) [] H) H fun t9_5 H => gd t4_1 true (run S (.lenS (.c t9_5)) [] H) H fun t10_6 H => gd t4_1 true (run S (.call 103 [(.c t8_4), (.c
  t10_6)]) [] H) H fun t11_7 H => gd t4_1 true (run S (.bin .eql (.c t6_2) (.c t11_7)) [] H) H fun t12_8 H => run S (.pick (.c t4_1) (.c t12_8) (.c (.bool false))) [] H
  fun t13_9 H => R t13_9 H
theorem h95 (S : Sys) (a0 : Value) (H : Heap) (R : Kv) : wpC S k95.body (Env.get [a0]) H (fn [(.t 2)] R) = s95 S a0 H R := by kernel_rfl
theorem w95 {S : Sys} (hR : S.R 95 = none) (hF : S.F 95 = some k95) (a0 : Value) {H : Heap} {R : Kv} (h : s95 S a0 H R) : Wf S 95 [a0] H R := Wf_sh hR hF ((h95 S a0 H
  R).mpr h)
def s96 (S : Sys) (a0 a1 : Value) (H : Heap) (R : Kv) : Prop := run S (.alloc 74 [(.slice none 0 0)]) [] H fun t5_1 H => run S (.cvt .u64 (.c a0)) [] H fun t7_2 H => run
  S (.call 52 [(.c t5_1), (.c t7_2), (.c (.int .i64 1))]) [] H fun t8_3 H => run S (.cvt .u64 (.c a1)) [] H fun t10_4 H => run S (.call 53 [(.c t8_3), (.c t10_4)]) [] H
  fun t11_5 H => R t11_5 H
theorem h96 (S : Sys) (a0 a1 : Value) (H : Heap) (R : Kv) : wpC S k96.body (Env.get [a0, a1]) H (fn [(.t 4)] R) = s96 S a0 a1 H R := by kernel_rfl
theorem w96 {S : Sys} (hR : S.R 96 = none) (hF : S.F 96 = some k96) (a0 a1 : Value) {H : Heap} {R : Kv} (h : s96 S a0 a1 H R) : Wf S 96 [a0, a1] H R := Wf_sh hR hF ((h96
  S a0 a1 H R).mpr h)
def s97 (S : Sys) (a0 a1 : Value) (H : Heap) (R : Kv) : Prop := run S (.eqv .ptr false (.c a0) (.c (.pointer none))) [] H fun t6_1 H => jn (sq (fun e3 H => run S (.nck
  (.c (e3 0))) [] H fun t9_4 H => run S (.fad 0 (.c t9_4)) [] H fun t10_5 H => run S (.ld (.c t10_5)) [] H fun t11_6 H => run S (.appS 5 (.c t11_6) (.c (e3 1))) [] H fun
  t13_7 H => run S (.nck (.c (e3 0))) [] H fun t14_8 H => run S (.fad 0 (.c t14_8)) [] H fun t15_9 H => run S (.st (.c t15_9) (.c t13_7)) [] H fun _ H => R (e3 0) H) (fn
  [(.t 4)] R)) fun Q2 => cnd t6_1 (fun Q10 => Q10 .ret (upd (upd (upd (upd (Env.get [a0, a1]) 4 (.pointer none)) 5 a0) 6 t6_1) 4 (.pointer none)) H) (fun Q11 => Q11
  .normal (upd (upd (upd (Env.get [a0, a1]) 4 (.pointer none)) 5 a0) 6 t6_1) H) Q2
theorem h97 (S : Sys) (a0 a1 : Value) (H : Heap) (R : Kv) : wpC S k97.body (Env.get [a0, a1]) H (fn [(.t 4)] R) = s97 S a0 a1 H R := by kernel_rfl
theorem w97 {S : Sys} (hR : S.R 97 = none) (hF : S.F 97 = some k97) (a0 a1 : Value) {H : Heap} {R : Kv} (h : s97 S a0 a1 H R) : Wf S 97 [a0, a1] H R := Wf_sh hR hF ((h97
  S a0 a1 H R).mpr h)
def s98 (S : Sys) (a0 : Value) (H : Heap) (R : Kv) : Prop := run S (.s2b 5 (.c a0)) [] H fun t11_1 H => run S (.call 45 [(.c t11_1)]) [] H fun t12_2 H => run S (.call 38
  [(.c t12_2)]) [] H fun t13_3 H => run S (.xt (.c t13_3) 0) [] H fun t14_4 H => run S (.xt (.c t13_3) 1) [] H fun t15_5 H => run S (.un .not (.c t15_5)) [] H fun t17_6
  H => jn (sq (fun e8 H => run S (.call 26 [(.c (e8 4))]) [] H fun t20_9 H => run S (.xt (.c t20_9) 0) [] H fun t21_10 H => run S (.xt (.c t20_9) 1) [] H fun t22_11 H =>
  run S (.s2b 5 (.c (e8 0))) [] H fun t26_12 H => run S (.call 25 [(.c (e8 4)), (.c t26_12)]) [] H fun t27_13 H => run S (.xt (.c t27_13) 0) [] H fun t28_14 H => run S
  (.xt (.c t27_13) 1) [] H fun t29_15 H => run S (.lenS (.c (e8 0))) [] H fun t31_16 H => run S (.call 96 [(.c (.int .i64 2)), (.c t31_16)]) [] H fun t32_17 H => run S
  (.call 97 [(.c t32_17), (.c t21_10)]) [] H fun t34_18 H => run S (.call 54 [(.c t34_18), (.c t28_14)]) [] H fun t36_19 H => run S (.call 55 [(.c t36_19)]) [] H fun
  t37_20 H => R (tup [t37_20, t29_15]) H) (fn [(.t 2), (.t 3)] R)) fun Q7 => cnd t17_6 (fun Q21 => Q21 .ret (upd (upd (upd (upd (upd (upd (upd (upd (upd (upd (upd (upd
  (upd (upd (upd (Env.get [a0]) 2 (.string (bs []))) 3 (.bool false)) 10 a0) 11 t11_1) 12 t12_2) 13 t13_3) 9 t13_3) 14 t14_4) 15 t15_5) 4 t14_4) 5 t15_5) 16 t15_5) 17
  t17_6) 2 (.string (bs []))) 3 (.bool false)) H) (fun Q22 => Q22 .normal (upd (upd (upd (upd (upd (upd (upd (upd (upd (upd (upd (upd (upd (Env.get [a0]) 2 (.string (bs
  []))) 3 (.bool false)) 10 a0) 11 t11_1) 12 t12_2) 13 t13_3) 9 t13_3) 14 t14_4) 15 t15_5) 4 t14_4) 5 t15_5) 16 t15_5) 17 t17_6) H) Q7
theorem h98 (S : Sys) (a0 : Value) (H : Heap) (R : Kv) : wpC S k98.body (Env.get [a0]) H (fn [(.t 2), (.t 3)] R) = s98 S a0 H R := by kernel_rfl
theorem w98 {S : Sys} (hR : S.R 98 = none) (hF : S.F 98 = some k98) (a0 : Value) {H : Heap} {R : Kv} (h : s98 S a0 H R) : Wf S 98 [a0] H R := Wf_sh hR hF ((h98 S a0 H
  R).mpr h)
def b99_0 : KCode := (.seq (.reg [(.op (some 15) none (.bin .lss (.t 14) (.t 13)))]) (.seq (.cond (.t 15) .skip (.exit 0)) (.seq (.block 1 (.seq (.reg [(.op (some 16)
  none (.mv (.t 14))), (.op (some 17) none (.iad 1 (.t 12) (.t 14))), (.op (some 18) none (.ld (.t 17))), (.op (some 6) none (.mv (.t 16))), (.op (some 7) none (.mv (.t
  18)))]) (.reg [(.op (some 19) none (.mv (.t 5))), (.op (some 20) none (.mv (.t 7))), (.op (some 21) none (.cvt .u64 (.t 20))), (.op (some 22) none (.mv (.t 6))), (.op
  (some 23) none (.bin .mul (.c (.int .i64 8)) (.t 22))), (.op (some 24) none (.bin .shl (.t 21) (.t 23))), (.op (some 25) none (.bin .or (.t 19) (.t 24))), (.op (some
  5) none (.mv (.t 25)))]))) (.reg [(.op (some 26) none (.bin .add (.t 14) (.c (.int .i64 1)))), (.op (some 14) none (.mv (.t 26)))]))))
def s99_0 (S : Sys) (e : Fe) (H : Heap) (Q : Kx) : Prop := run S (.bin .lss (.c (e 14)) (.c (e 13))) [] H fun t15_8 H => jn (sq (fun e10 H => jn (sq (fun e12 H => run S
  (.bin .add (.c (e12 14)) (.c (.int .i64 1))) [] H fun t26_13 H => Q .normal (upd (upd e12 26 t26_13) 14 t26_13) H) Q) fun Q11 => run S (.iad 1 (.c (e10 12)) (.c (e10
  14))) [] H fun t17_14 H => run S (.ld (.c t17_14)) [] H fun t18_15 H => run S (.cvt .u64 (.c t18_15)) [] H fun t21_16 H => run S (.bin .mul (.c (.int .i64 8)) (.c (e10
  14))) [] H fun t23_17 H => run S (.bin .shl (.c t21_16) (.c t23_17)) [] H fun t24_18 H => run S (.bin .or (.c (e10 5)) (.c t24_18)) [] H fun t25_19 H => Q11 .normal
  (upd (upd (upd (upd (upd (upd (upd (upd (upd (upd (upd (upd (upd e10 16 (e10 14)) 17 t17_14) 18 t18_15) 6 (e10 14)) 7 t18_15) 19 (e10 5)) 20 t18_15) 21 t21_16) 22 (e10
  14)) 23 t23_17) 24 t24_18) 25 t25_19) 5 t25_19) H) Q) fun Q9 => cnd t15_8 (fun Q20 => Q20 .normal (upd e 15 t15_8) H) (fun Q21 => Q21 (.exit 0) (upd e 15 t15_8) H) Q9
theorem h99_0 (S : Sys) (e : Fe) (H : Heap) (Q : Kx) : wpC S b99_0 e H Q = s99_0 S e H Q := by kernel_rfl
theorem l99_0 (S : Sys) {Q : Kx} (I : Nat → Fe → Heap → Prop) (d : Nat) {e0 : Fe} {H : Heap} (h0 : I d e0 H) (hr : ∀ (d : Nat) (e : Fe) (H : Heap), I d e H → s99_0 S e H
  (sq (fun e' H' => ∃ d', d' < d ∧ I d' e' H') Q)) : WL S b99_0 e0 H Q := WL_inv I d h0 fun d e H hi => (h99_0 S e H _).mpr (hr d e H hi)
theorem u99_0 (S : Sys) {Q : Kx} {e : Fe} {H : Heap} (h : s99_0 S e H (sq (fun e' H' => WL S b99_0 e' H' Q) Q)) : WL S b99_0 e H Q := WL_once ((h99_0 S e H _).mpr h)
def s99 (S : Sys) (a0 a1 : Value) (H : Heap) (R : Kv) : Prop := run S (.call 105 [(.c a1)]) [] H fun t10_1 H => run S (.call 102 [(.c a0), (.c t10_1)]) [] H fun t11_2 H
  => run S (.s2b 5 (.c t11_2)) [] H fun t12_3 H => run S (.lenL (.c t12_3)) [] H fun t13_4 H => jn (sq (fun e6 H => R (e6 5) H) (fn [(.t 4)] R)) fun Q5 => jn (blk 0 Q5)
  fun Q7 => WL S b99_0 (upd (upd (upd (upd (upd (upd (upd (upd (upd (Env.get [a0, a1]) 4 (.int .u64 0)) 5 (.int .u64 0)) 8 a0) 9 a1) 10 t10_1) 11 t11_2) 12 t12_3) 13
  t13_4) 14 (.int .i64 0)) H Q7
theorem h99 (S : Sys) (a0 a1 : Value) (H : Heap) (R : Kv) : wpC S k99.body (Env.get [a0, a1]) H (fn [(.t 4)] R) = s99 S a0 a1 H R := by kernel_rfl
theorem w99 {S : Sys} (hR : S.R 99 = none) (hF : S.F 99 = some k99) (a0 a1 : Value) {H : Heap} {R : Kv} (h : s99 S a0 a1 H R) : Wf S 99 [a0, a1] H R := Wf_sh hR hF ((h99
  S a0 a1 H R).mpr h)
def s100 (S : Sys) (a0 a1 : Value) (H : Heap) (R : Kv) : Prop := run S (.call 125 [(.c a0)]) [] H fun t7_1 H => run S (.call 101 [(.c a0)]) [] H fun t9_2 H => gd t9_2
  false (run S (.mv (.c a1)) [] H) H fun t11_3 H => gd t9_2 false (run S (.bin .lss (.c t11_3) (.c (.int .i64 0))) [] H) H fun t12_4 H => run S (.pick (.c t9_2) (.c
  (.bool true)) (.c t12_4)) [] H fun t13_5 H => gd t13_5 false (run S (.mv (.c t7_1)) [] H) H fun t15_6 H => gd t13_5 false (run S (.mv (.c a1)) [] H) H fun t16_7 H =>
  gd t13_5 false (run S (.cvt .u64 (.c t16_7)) [] H) H fun t17_8 H => gd t13_5 false (run S (.bin .gtr (.c t15_6) (.c t17_8)) [] H) H fun t18_9 H => run S (.pick (.c
  t13_5) (.c (.bool true)) (.c t18_9)) [] H fun t19_10 H => jn (sq (fun e12 H => run S (.cvt .i64 (.c (e12 5))) [] H fun t23_13 H => R t23_13 H) (fn [(.t 4)] R)) fun Q11
  => cnd t19_10 (fun Q14 => run S (.call 126 [(.c a0)]) [] H fun t21_16 H => Q14 .ret (upd (upd (upd (upd (upd (upd (upd (upd (upd (upd (upd (upd (upd (upd (upd (upd
  (upd (upd (upd (Env.get [a0, a1]) 4 (.int .i64 0)) 6 a0) 7 t7_1) 5 t7_1) 8 a0) 9 t9_2) 10 t9_2) 11 t11_3) 12 t12_4) 13 t13_5) 14 t13_5) 15 t15_6) 16 t16_7) 17 t17_8)
  18 t18_9) 19 t19_10) 20 a0) 21 t21_16) 4 (.int .i64 0)) H) (fun Q15 => Q15 .normal (upd (upd (upd (upd (upd (upd (upd (upd (upd (upd (upd (upd (upd (upd (upd (upd
  (Env.get [a0, a1]) 4 (.int .i64 0)) 6 a0) 7 t7_1) 5 t7_1) 8 a0) 9 t9_2) 10 t9_2) 11 t11_3) 12 t12_4) 13 t13_5) 14 t13_5) 15 t15_6) 16 t16_7) 17 t17_8) 18 t18_9) 19
  t19_10) H) Q11
theorem h100 (S : Sys) (a0 a1 : Value) (H : Heap) (R : Kv) : wpC S k100.body (Env.get [a0, a1]) H (fn [(.t 4)] R) = s100 S a0 a1 H R := by kernel_rfl
theorem w100 {S : Sys} (hR : S.R 100 = none) (hF : S.F 100 = some k100) (a0 a1 : Value) {H : Heap} {R : Kv} (h : s100 S a0 a1 H R) : Wf S 100 [a0, a1] H R := Wf_sh hR hF
  ((h100 S a0 a1 H R).mpr h)
def s101 (S : Sys) (a0 : Value) (H : Heap) (R : Kv) : Prop := run S (.eqv .ptr false (.c a0) (.c (.pointer none))) [] H fun t4_1 H => gd t4_1 false (run S (.mv (.c a0))
  [] H) H fun t6_2 H => gd t4_1 false (run S (.nck (.c t6_2)) [] H) H fun t7_3 H => gd t4_1 false (run S (.fad 1 (.c t7_3)) [] H) H fun t8_4 H => gd t4_1 false (run S
  (.ld (.c t8_4)) [] H) H fun t9_5 H => run S (.pick (.c t4_1) (.c (.bool true)) (.c t9_5)) [] H fun t10_6 H => R t10_6 H
theorem h101 (S : Sys) (a0 : Value) (H : Heap) (R : Kv) : wpC S k101.body (Env.get [a0]) H (fn [(.t 2)] R) = s101 S a0 H R := by kernel_rfl
theorem w101 {S : Sys} (hR : S.R 101 = none) (hF : S.F 101 = some k101) (a0 : Value) {H : Heap} {R : Kv} (h : s101 S a0 H R) : Wf S 101 [a0] H R := Wf_sh hR hF ((h101 S
  a0 H R).mpr h)
def s102 (S : Sys) (a0 a1 : Value) (H : Heap) (R : Kv) : Prop := run S (.mx (.c a1) [(.c (.int .i64 0))]) [] H fun t7_1 H => run S (.call 101 [(.c a0)]) [] H fun t9_2 H
  => gd t9_2 false (run S (.mv (.c a0)) [] H) H fun t11_3 H => gd t9_2 false (run S (.nck (.c t11_3)) [] H) H fun t12_4 H => gd t9_2 false (run S (.fad 0 (.c t12_4)) []
  H) H fun t13_5 H => gd t9_2 false (run S (.ld (.c t13_5)) [] H) H fun t14_6 H => gd t9_2 false (run S (.lenS (.c t14_6)) [] H) H fun t15_7 H => gd t9_2 false (run S
  (.mv (.c t7_1)) [] H) H fun t16_8 H => gd t9_2 false (run S (.bin .lss (.c t15_7) (.c t16_8)) [] H) H fun t17_9 H => run S (.pick (.c t9_2) (.c (.bool true)) (.c
  t17_9)) [] H fun t18_10 H => jn (sq (fun e12 H => run S (.nck (.c (e12 0))) [] H fun t22_13 H => run S (.fad 0 (.c t22_13)) [] H fun t23_14 H => run S (.ld (.c
  t23_14)) [] H fun t24_15 H => run S (.slS (.c t24_15) none (some (.c (e12 1)))) [] H fun t26_16 H => run S (.nck (.c (e12 0))) [] H fun t29_17 H => run S (.fad 0 (.c
  t29_17)) [] H fun t30_18 H => run S (.ld (.c t30_18)) [] H fun t31_19 H => run S (.slS (.c t31_19) (some (.c (e12 1))) none) [] H fun t33_20 H => run S (.nck (.c (e12
  0))) [] H fun t34_21 H => run S (.fad 0 (.c t34_21)) [] H fun t35_22 H => run S (.st (.c t35_22) (.c t33_20)) [] H fun _ H => R t26_16 H) (fn [(.t 4)] R)) fun Q11 =>
  cnd t18_10 (fun Q23 => run S (.call 126 [(.c a0)]) [] H fun t20_25 H => Q23 .ret (upd (upd (upd (upd (upd (upd (upd (upd (upd (upd (upd (upd (upd (upd (upd (upd (upd
  (upd (Env.get [a0, a1]) 4 (.string (bs []))) 6 a1) 7 t7_1) 1 t7_1) 8 a0) 9 t9_2) 10 t9_2) 11 t11_3) 12 t12_4) 13 t13_5) 14 t14_6) 15 t15_7) 16 t16_8) 17 t17_9) 18
  t18_10) 19 a0) 20 t20_25) 4 (.string (bs []))) H) (fun Q24 => Q24 .normal (upd (upd (upd (upd (upd (upd (upd (upd (upd (upd (upd (upd (upd (upd (upd (Env.get [a0, a1])
  4 (.string (bs []))) 6 a1) 7 t7_1) 1 t7_1) 8 a0) 9 t9_2) 10 t9_2) 11 t11_3) 12 t12_4) 13 t13_5) 14 t14_6) 15 t15_7) 16 t16_8) 17 t17_9) 18 t18_10) H) Q11
theorem h102 (S : Sys) (a0 a1 : Value) (H : Heap) (R : Kv) : wpC S k102.body (Env.get [a0, a1]) H (fn [(.t 4)] R) = s102 S a0 a1 H R := by kernel_rfl
theorem w102 {S : Sys} (hR : S.R 102 = none) (hF : S.F 102 = some k102) (a0 a1 : Value) {H : Heap} {R : Kv} (h : s102 S a0 a1 H R) : Wf S 102 [a0, a1] H R := Wf_sh hR hF
  ((h102 S a0 a1 H R).mpr h)
def s104 (S : Sys) (a0 a1 : Value) (H : Heap) (R : Kv) : Prop := run S (.call 130 [(.c a0)]) [] H fun t12_1 H => run S (.xt (.c t12_1) 0) [] H fun t13_2 H => run S (.xt
  (.c t12_1) 1) [] H fun t14_3 H => run S (.un .not (.c t14_3)) [] H fun t16_4 H => jn (sq (fun e6 H => run S (.call 106 [(.c (e6 0)), (.c (.int .i64 1048576))]) [] H
  fun t18_7 H => run S (.call 101 [(.c (e6 0))]) [] H fun t20_8 H => jn (sq (fun e10 H => run S (.call 23 [(.c (e10 6)), (.c (e10 8)), (.c (e10 1))]) [] H fun t25_11 H
  => run S (.xt (.c t25_11) 0) [] H fun t26_12 H => run S (.xt (.c t25_11) 1) [] H fun t27_13 H => run S (.b2s 5 (.c t26_12)) [] H fun t29_14 H => R (tup [t29_14,
  t27_13]) H) (fn [(.t 4), (.t 5)] R)) fun Q9 => cnd t20_8 (fun Q15 => Q15 .ret (upd (upd (upd (upd (upd (upd (upd e6 17 (e6 0)) 18 t18_7) 8 t18_7) 19 (e6 0)) 20 t20_8)
  4 (.string (bs []))) 5 (.bool false)) H) (fun Q16 => Q16 .normal (upd (upd (upd (upd (upd e6 17 (e6 0)) 18 t18_7) 8 t18_7) 19 (e6 0)) 20 t20_8) H) Q9) (fn [(.t 4), (.t
  5)] R)) fun Q5 => cnd t16_4 (fun Q17 => Q17 .ret (upd (upd (upd (upd (upd (upd (upd (upd (upd (upd (upd (upd (upd (Env.get [a0, a1]) 4 (.string (bs []))) 5 (.bool
  false)) 11 a0) 12 t12_1) 10 t12_1) 13 t13_2) 14 t14_3) 6 t13_2) 7 t14_3) 15 t14_3) 16 t16_4) 4 (.string (bs []))) 5 (.bool false)) H) (fun Q18 => Q18 .normal (upd (upd
  (upd (upd (upd (upd (upd (upd (upd (upd (upd (Env.get [a0, a1]) 4 (.string (bs []))) 5 (.bool false)) 11 a0) 12 t12_1) 10 t12_1) 13 t13_2) 14 t14_3) 6 t13_2) 7 t14_3)
  15 t14_3) 16 t16_4) H) Q5
theorem h104 (S : Sys) (a0 a1 : Value) (H : Heap) (R : Kv) : wpC S k104.body (Env.get [a0, a1]) H (fn [(.t 4), (.t 5)] R) = s104 S a0 a1 H R := by kernel_rfl
theorem w104 {S : Sys} (hR : S.R 104 = none) (hF : S.F 104 = some k104) (a0 a1 : Value) {H : Heap} {R : Kv} (h : s104 S a0 a1 H R) : Wf S 104 [a0, a1] H R := Wf_sh hR hF
  ((h104 S a0 a1 H R).mpr h)
def s105 (S : Sys) (a0 : Value) (H : Heap) (R : Kv) : Prop := run S (.mx (.c a0) [(.c (.int .i64 0))]) [] H fun t4_1 H => run S (.mn (.c t4_1) [(.c (.int .i64 8))]) [] H
  fun t5_2 H => R t5_2 H
theorem h105 (S : Sys) (a0 : Value) (H : Heap) (R : Kv) : wpC S k105.body (Env.get [a0]) H (fn [(.t 2)] R) = s105 S a0 H R := by kernel_rfl
theorem w105 {S : Sys} (hR : S.R 105 = none) (hF : S.F 105 = some k105) (a0 : Value) {H : Heap} {R : Kv} (h : s105 S a0 H R) : Wf S 105 [a0] H R := Wf_sh hR hF ((h105 S
  a0 H R).mpr h)
def s106 (S : Sys) (a0 a1 : Value) (H : Heap) (R : Kv) : Prop := run S (.call 100 [(.c a0), (.c a1)]) [] H fun t8_1 H => run S (.call 102 [(.c a0), (.c t8_1)]) [] H fun
  t9_2 H => R t9_2 H
theorem h106 (S : Sys) (a0 a1 : Value) (H : Heap) (R : Kv) : wpC S k106.body (Env.get [a0, a1]) H (fn [(.t 4)] R) = s106 S a0 a1 H R := by kernel_rfl
theorem w106 {S : Sys} (hR : S.R 106 = none) (hF : S.F 106 = some k106) (a0 a1 : Value) {H : Heap} {R : Kv} (h : s106 S a0 a1 H R) : Wf S 106 [a0, a1] H R := Wf_sh hR hF
  ((h106 S a0 a1 H R).mpr h)
def b125_0 : KCode := (.seq (.reg [(.op (some 8) none (.bin .lss (.t 7) (.c (.int .i64 10))))]) (.seq (.cond (.t 8) .skip (.exit 0)) (.seq (.block 1 (.seq (.reg [(.op
  (some 9) none (.mv (.t 7))), (.op (some 4) none (.mv (.t 9)))]) (.seq (.reg [(.op (some 10) none (.mv (.t 0))), (.op (some 11) none (.call 102 [(.t 10), (.c (.int .i64
  1))])), (.op (some 5) none (.mv (.t 11)))]) (.seq (.seq (.reg [(.op (some 12) none (.mv (.t 5))), (.op (some 13) none (.bin .eql (.t 12) (.c (.string (bs [])))))])
  (.cond (.t 13) (.seq (.reg [(.op (some 2) none (.mv (.c (.int .u64 0))))]) .ret) .skip)) (.seq (.reg [(.op (some 14) none (.mv (.t 5))), (.op (some 15) none (.idS (.t
  14) (.c (.int .i64 0)))), (.op (some 16) none (.cvt .u64 (.t 15))), (.op (some 6) none (.mv (.t 16)))]) (.seq (.seq (.reg [(.op (some 17) none (.mv (.t 4))), (.op
  (some 18) none (.bin .eql (.t 17) (.c (.int .i64 9)))), (.op (some 19) none (.mv (.t 18))), (.op (some 20) (some (19, true)) (.mv (.t 6))), (.op (some 21) (some (19,
  true)) (.bin .gtr (.t 20) (.c (.int .u64 1)))), (.op (some 22) none (.pick (.t 19) (.t 21) (.c (.bool false)))), (.op (some 23) none (.mv (.t 22))), (.op (some 24)
  (some (23, false)) (.mv (.t 4))), (.op (some 25) (some (23, false)) (.bin .gtr (.t 24) (.c (.int .i64 0)))), (.op (some 26) (some (23, false)) (.mv (.t 25))), (.op
  (some 27) (some (26, true)) (.mv (.t 6))), (.op (some 28) (some (26, true)) (.bin .eql (.t 27) (.c (.int .u64 0)))), (.op (some 29) (some (23, false)) (.pick (.t 26)
  (.t 28) (.c (.bool false)))), (.op (some 30) none (.pick (.t 23) (.c (.bool true)) (.t 29)))]) (.cond (.t 30) (.exit 0) .skip)) (.seq (.reg [(.op (some 31) none (.mv
  (.t 3))), (.op (some 32) none (.mv (.t 6))), (.op (some 33) none (.bin .and (.t 32) (.c (.int .u64 127)))), (.op (some 34) none (.mv (.t 4))), (.op (some 35) none
  (.bin .mul (.c (.int .i64 7)) (.t 34))), (.op (some 36) none (.bin .shl (.t 33) (.t 35))), (.op (some 37) none (.bin .or (.t 31) (.t 36))), (.op (some 3) none (.mv (.t
  37)))]) (.seq (.reg [(.op (some 38) none (.mv (.t 6))), (.op (some 39) none (.bin .lss (.t 38) (.c (.int .u64 128))))]) (.cond (.t 39) (.seq (.reg [(.op (some 40) none
  (.mv (.t 3))), (.op (some 2) none (.mv (.t 40)))]) .ret) .skip))))))))) (.reg [(.op (some 41) none (.bin .add (.t 7) (.c (.int .i64 1)))), (.op (some 7) none (.mv (.t
  41)))]))))
def s125_0 (S : Sys) (e : Fe) (H : Heap) (Q : Kx) : Prop := run S (.bin .lss (.c (e 7)) (.c (.int .i64 10))) [] H fun t8_5 H => jn (sq (fun e7 H => jn (sq (fun e9 H =>
  run S (.bin .add (.c (e9 7)) (.c (.int .i64 1))) [] H fun t41_10 H => Q .normal (upd (upd e9 41 t41_10) 7 t41_10) H) Q) fun Q8 => run S (.call 102 [(.c (e7 0)), (.c
  (.int .i64 1))]) [] H fun t11_11 H => run S (.bin .eql (.c t11_11) (.c (.string (bs [])))) [] H fun t13_12 H => jn (blk 1 Q8) fun Q13 => jn (sq (fun e15 H => run S
  (.idS (.c (e15 5)) (.c (.int .i64 0))) [] H fun t15_16 H => run S (.cvt .u64 (.c t15_16)) [] H fun t16_17 H => run S (.bin .eql (.c (e15 4)) (.c (.int .i64 9))) [] H
  fun t18_18 H => gd t18_18 true (run S (.mv (.c t16_17)) [] H) H fun t20_19 H => gd t18_18 true (run S (.bin .gtr (.c t20_19) (.c (.int .u64 1))) [] H) H fun t21_20 H
  => run S (.pick (.c t18_18) (.c t21_20) (.c (.bool false))) [] H fun t22_21 H => gd t22_21 false (run S (.mv (.c (e15 4))) [] H) H fun t24_22 H => gd t22_21 false (run
  S (.bin .gtr (.c t24_22) (.c (.int .i64 0))) [] H) H fun t25_23 H => gd t22_21 false (run S (.mv (.c t25_23)) [] H) H fun t26_24 H => gd t26_24 true (run S (.mv (.c
  t16_17)) [] H) H fun t27_25 H => gd t26_24 true (run S (.bin .eql (.c t27_25) (.c (.int .u64 0))) [] H) H fun t28_26 H => gd t22_21 false (run S (.pick (.c t26_24) (.c
  t28_26) (.c (.bool false))) [] H) H fun t29_27 H => run S (.pick (.c t22_21) (.c (.bool true)) (.c t29_27)) [] H fun t30_28 H => jn (sq (fun e30 H => run S (.bin .and
  (.c (e30 6)) (.c (.int .u64 127))) [] H fun t33_31 H => run S (.bin .mul (.c (.int .i64 7)) (.c (e30 4))) [] H fun t35_32 H => run S (.bin .shl (.c t33_31) (.c
  t35_32)) [] H fun t36_33 H => run S (.bin .or (.c (e30 3)) (.c t36_33)) [] H fun t37_34 H => run S (.bin .lss (.c (e30 6)) (.c (.int .u64 128))) [] H fun t39_35 H =>
  cnd t39_35 (fun Q36 => Q36 .ret (upd (upd (upd (upd (upd (upd (upd (upd (upd (upd (upd (upd e30 31 (e30 3)) 32 (e30 6)) 33 t33_31) 34 (e30 4)) 35 t35_32) 36 t36_33) 37
  t37_34) 3 t37_34) 38 (e30 6)) 39 t39_35) 40 t37_34) 2 t37_34) H) (fun Q37 => Q37 .normal (upd (upd (upd (upd (upd (upd (upd (upd (upd (upd e30 31 (e30 3)) 32 (e30 6))
  33 t33_31) 34 (e30 4)) 35 t35_32) 36 t36_33) 37 t37_34) 3 t37_34) 38 (e30 6)) 39 t39_35) H) Q13) Q13) fun Q29 => cnd t30_28 (fun Q38 => Q38 (.exit 0) (upd (upd (upd
  (upd (upd (upd (upd (upd (upd (upd (upd (upd (upd (upd (upd (upd (upd (upd e15 14 (e15 5)) 15 t15_16) 16 t16_17) 6 t16_17) 17 (e15 4)) 18 t18_18) 19 t18_18) 20 t20_19)
  21 t21_20) 22 t22_21) 23 t22_21) 24 t24_22) 25 t25_23) 26 t26_24) 27 t27_25) 28 t28_26) 29 t29_27) 30 t30_28) H) (fun Q39 => Q39 .normal (upd (upd (upd (upd (upd (upd
  (upd (upd (upd (upd (upd (upd (upd (upd (upd (upd (upd (upd e15 14 (e15 5)) 15 t15_16) 16 t16_17) 6 t16_17) 17 (e15 4)) 18 t18_18) 19 t18_18) 20 t20_19) 21 t21_20) 22
  t22_21) 23 t22_21) 24 t24_22) 25 t25_23) 26 t26_24) 27 t27_25) 28 t28_26) 29 t29_27) 30 t30_28) H) Q29) Q13) fun Q14 => cnd t13_12 (fun Q40 => Q40 .ret (upd (upd (upd
  (upd (upd (upd (upd (upd e7 9 (e7 7)) 4 (e7 7)) 10 (e7 0)) 11 t11_11) 5 t11_11) 12 t11_11) 13 t13_12) 2 (.int .u64 0)) H) (fun Q41 => Q41 .normal (upd (upd (upd (upd
  (upd (upd (upd e7 9 (e7 7)) 4 (e7 7)) 10 (e7 0)) 11 t11_11) 5 t11_11) 12 t11_11) 13 t13_12) H) Q14) Q) fun Q6 => cnd t8_5 (fun Q42 => Q42 .normal (upd e 8 t8_5) H)
  (fun Q43 => Q43 (.exit 0) (upd e 8 t8_5) H) Q6
theorem h125_0 (S : Sys) (e : Fe) (H : Heap) (Q : Kx) : wpC S b125_0 e H Q = s125_0 S e H Q := by kernel_rfl
theorem l125_0 (S : Sys) {Q : Kx} (I : Nat → Fe → Heap → Prop) (d : Nat) {e0 : Fe} {H : Heap} (h0 : I d e0 H) (hr : ∀ (d : Nat) (e : Fe) (H : Heap), I d e H → s125_0 S e
  H (sq (fun e' H' => ∃ d', d' < d ∧ I d' e' H') Q)) : WL S b125_0 e0 H Q := WL_inv I d h0 fun d e H hi => (h125_0 S e H _).mpr (hr d e H hi)
theorem u125_0 (S : Sys) {Q : Kx} {e : Fe} {H : Heap} (h : s125_0 S e H (sq (fun e' H' => WL S b125_0 e' H' Q) Q)) : WL S b125_0 e H Q := WL_once ((h125_0 S e H _).mpr h)
def s125 (S : Sys) (a0 : Value) (H : Heap) (R : Kv) : Prop := jn (sq (fun e2 H => run S (.call 126 [(.c (e2 0))]) [] H fun t43_3 H => R (.int .u64 0) H) (fn [(.t 2)] R))
  fun Q1 => jn (blk 0 Q1) fun Q4 => WL S b125_0 (upd (upd (upd (Env.get [a0]) 2 (.int .u64 0)) 3 (.int .u64 0)) 7 (.int .i64 0)) H Q4
theorem h125 (S : Sys) (a0 : Value) (H : Heap) (R : Kv) : wpC S k125.body (Env.get [a0]) H (fn [(.t 2)] R) = s125 S a0 H R := by kernel_rfl
theorem w125 {S : Sys} (hR : S.R 125 = none) (hF : S.F 125 = some k125) (a0 : Value) {H : Heap} {R : Kv} (h : s125 S a0 H R) : Wf S 125 [a0] H R := Wf_sh hR hF ((h125 S
  a0 H R).mpr h)
def s126 (S : Sys) (a0 : Value) (H : Heap) (R : Kv) : Prop := run S (.eqv .ptr true (.c a0) (.c (.pointer none))) [] H fun t3_1 H => cnd t3_1 (fun Q2 => run S (.nck (.c
  a0)) [] H fun t6_4 H => run S (.fad 0 (.c t6_4)) [] H fun t7_5 H => run S (.st (.c t7_5) (.c (.string (bs [])))) [] H fun _ H => run S (.nck (.c a0)) [] H fun t8_6 H
  => run S (.fad 1 (.c t8_6)) [] H fun t9_7 H => run S (.st (.c t9_7) (.c (.bool true))) [] H fun _ H => Q2 .normal (upd (upd (upd (upd (upd (upd (upd (upd (Env.get
  [a0]) 2 a0) 3 t3_1) 4 a0) 5 a0) 6 t6_4) 7 t7_5) 8 t8_6) 9 t9_7) H) (fun Q3 => Q3 .normal (upd (upd (Env.get [a0]) 2 a0) 3 t3_1) H) (fn [] R)
theorem h126 (S : Sys) (a0 : Value) (H : Heap) (R : Kv) : wpC S k126.body (Env.get [a0]) H (fn [] R) = s126 S a0 H R := by kernel_rfl
theorem w126 {S : Sys} (hR : S.R 126 = none) (hF : S.F 126 = some k126) (a0 : Value) {H : Heap} {R : Kv} (h : s126 S a0 H R) : Wf S 126 [a0] H R := Wf_sh hR hF ((h126 S
  a0 H R).mpr h)
def b130_0 : KCode := (.seq (.reg [(.op (some 27) none (.bin .lss (.t 26) (.t 25)))]) (.seq (.cond (.t 27) .skip (.exit 0)) (.seq (.block 1 (.seq (.reg [(.op (some 28)
  none (.iad 1 (.t 24) (.t 26))), (.op (some 29) none (.ld (.t 28))), (.op (some 8) none (.mv (.t 29)))]) (.reg [(.op (some 30) none (.mv (.t 6))), (.op (some 31) none
  (.mv (.t 8))), (.op (some 32) none (.bin .and (.t 31) (.c (.int .u8 15)))), (.op (some 33) none (.cvt .i64 (.t 32))), (.op (some 34) none (.mv (.t 8))), (.op (some 35)
  none (.bin .shr (.t 34) (.c (.int .u64 4)))), (.op (some 36) none (.cvt .i64 (.t 35))), (.op (some 37) none (.bsl 3 2 [(.int .i64 0), (.int .i64 0)] [(0, (1, (.t
  33))), (1, (1, (.t 36)))])), (.op (some 38) none (.app 3 1 8 (.t 30) (.t 37))), (.op (some 6) none (.mv (.t 38)))]))) (.reg [(.op (some 39) none (.bin .add (.t 26) (.c
  (.int .i64 1)))), (.op (some 26) none (.mv (.t 39)))]))))
def s130_0 (S : Sys) (e : Fe) (H : Heap) (Q : Kx) : Prop := run S (.bin .lss (.c (e 26)) (.c (e 25))) [] H fun t27_45 H => jn (sq (fun e47 H => jn (sq (fun e49 H => run
  S (.bin .add (.c (e49 26)) (.c (.int .i64 1))) [] H fun t39_50 H => Q .normal (upd (upd e49 39 t39_50) 26 t39_50) H) Q) fun Q48 => run S (.iad 1 (.c (e47 24)) (.c (e47
  26))) [] H fun t28_51 H => run S (.ld (.c t28_51)) [] H fun t29_52 H => run S (.bin .and (.c t29_52) (.c (.int .u8 15))) [] H fun t32_53 H => run S (.cvt .i64 (.c
  t32_53)) [] H fun t33_54 H => run S (.bin .shr (.c t29_52) (.c (.int .u64 4))) [] H fun t35_55 H => run S (.cvt .i64 (.c t35_55)) [] H fun t36_56 H => run S (.bsl 3 2
  [(.int .i64 0), (.int .i64 0)] [(0, (1, (.c t33_54))), (1, (1, (.c t36_56)))]) [] H fun t37_57 H => run S (.app 3 1 8 (.c (e47 6)) (.c t37_57)) [] H fun t38_58 H =>
  Q48 .normal (upd (upd (upd (upd (upd (upd (upd (upd (upd (upd (upd (upd (upd e47 28 t28_51) 29 t29_52) 8 t29_52) 30 (e47 6)) 31 t29_52) 32 t32_53) 33 t33_54) 34
  t29_52) 35 t35_55) 36 t36_56) 37 t37_57) 38 t38_58) 6 t38_58) H) Q) fun Q46 => cnd t27_45 (fun Q59 => Q59 .normal (upd e 27 t27_45) H) (fun Q60 => Q60 (.exit 0) (upd e
  27 t27_45) H) Q46
theorem h130_0 (S : Sys) (e : Fe) (H : Heap) (Q : Kx) : wpC S b130_0 e H Q = s130_0 S e H Q := by kernel_rfl
theorem l130_0 (S : Sys) {Q : Kx} (I : Nat → Fe → Heap → Prop) (d : Nat) {e0 : Fe} {H : Heap} (h0 : I d e0 H) (hr : ∀ (d : Nat) (e : Fe) (H : Heap), I d e H → s130_0 S e
  H (sq (fun e' H' => ∃ d', d' < d ∧ I d' e' H') Q)) : WL S b130_0 e0 H Q := WL_inv I d h0 fun d e H hi => (h130_0 S e H _).mpr (hr d e H hi)
theorem u130_0 (S : Sys) {Q : Kx} {e : Fe} {H : Heap} (h : s130_0 S e H (sq (fun e' H' => WL S b130_0 e' H' Q) Q)) : WL S b130_0 e H Q := WL_once ((h130_0 S e H _).mpr h)
def s130 (S : Sys) (a0 : Value) (H : Heap) (R : Kv) : Prop := run S (.call 99 [(.c a0), (.c (.int .i64 1))]) [] H fun t10_1 H => run S (.cvt .i64 (.c t10_1)) [] H fun
  t11_2 H => run S (.bin .add (.c t11_2) (.c (.int .i64 1))) [] H fun t12_3 H => run S (.bin .add (.c t12_3) (.c (.int .i64 1))) [] H fun t15_4 H => run S (.bin .quo (.c
  t15_4) (.c (.int .i64 2))) [] H fun t16_5 H => run S (.call 102 [(.c a0), (.c t16_5)]) [] H fun t17_6 H => run S (.call 101 [(.c a0)]) [] H fun t19_7 H => jn (sq (fun
  e9 H => run S (.bin .add (.c (e9 4)) (.c (.int .i64 1))) [] H fun t21_10 H => run S (.mks 3 [(.int .i64 0)] 8 (.c (.int .i64 0)) (.c t21_10)) [] H fun t22_11 H => run
  S (.s2b 5 (.c (e9 5))) [] H fun t24_12 H => run S (.lenL (.c t24_12)) [] H fun t25_13 H => jn (sq (fun e15 H => run S (.lenL (.c (e15 6))) [] H fun t41_16 H => run S
  (.bin .gtr (.c t41_16) (.c (e15 4))) [] H fun t43_17 H => gd t43_17 true (run S (.mv (.c (e15 6))) [] H) H fun t45_18 H => gd t43_17 true (run S (.mv (.c (e15 4))) []
  H) H fun t46_19 H => gd t43_17 true (run S (.iad 1 (.c t45_18) (.c t46_19)) [] H) H fun t47_20 H => gd t43_17 true (run S (.ld (.c t47_20)) [] H) H fun t48_21 H => gd
  t43_17 true (run S (.bin .neq (.c t48_21) (.c (.int .i64 0))) [] H) H fun t49_22 H => run S (.pick (.c t43_17) (.c t49_22) (.c (.bool false))) [] H fun t50_23 H => gd
  t50_23 false (run S (.mv (.c (e15 6))) [] H) H fun t52_24 H => gd t50_23 false (run S (.mv (.c (e15 4))) [] H) H fun t53_25 H => gd t50_23 false (run S (.bin .sub (.c
  t53_25) (.c (.int .i64 1))) [] H) H fun t54_26 H => gd t50_23 false (run S (.iad 1 (.c t52_24) (.c t54_26)) [] H) H fun t55_27 H => gd t50_23 false (run S (.ld (.c
  t55_27)) [] H) H fun t56_28 H => gd t50_23 false (run S (.bin .eql (.c t56_28) (.c (.int .i64 0))) [] H) H fun t57_29 H => run S (.pick (.c t50_23) (.c (.bool true))
  (.c t57_29)) [] H fun t58_30 H => gd t58_30 false (run S (.mv (.c (e15 6))) [] H) H fun t60_31 H => gd t58_30 false (run S (.mv (.c (e15 4))) [] H) H fun t61_32 H =>
  gd t58_30 false (run S (.slc 3 1 (.c t60_31) none (some (.c t61_32))) [] H) H fun t62_33 H => gd t58_30 false (run S (.call 61 [(.c t62_33)]) [] H) H fun t63_34 H =>
  gd t58_30 false (run S (.un .not (.c t63_34)) [] H) H fun t64_35 H => run S (.pick (.c t58_30) (.c (.bool true)) (.c t64_35)) [] H fun t65_36 H => jn (sq (fun e38 H =>
  run S (.slc 3 1 (.c (e38 6)) none (some (.c (e38 4)))) [] H fun t68_39 H => R (tup [t68_39, (.bool true)]) H) (fn [(.t 2), (.t 3)] R)) fun Q37 => cnd t65_36 (fun Q40
  => Q40 .ret (upd (upd (upd (upd (upd (upd (upd (upd (upd (upd (upd (upd (upd (upd (upd (upd (upd (upd (upd (upd (upd (upd (upd (upd (upd (upd (upd (upd e15 40 (e15 6))
  41 t41_16) 42 (e15 4)) 43 t43_17) 44 t43_17) 45 t45_18) 46 t46_19) 47 t47_20) 48 t48_21) 49 t49_22) 50 t50_23) 51 t50_23) 52 t52_24) 53 t53_25) 54 t54_26) 55 t55_27)
  56 t56_28) 57 t57_29) 58 t58_30) 59 t58_30) 60 t60_31) 61 t61_32) 62 t62_33) 63 t63_34) 64 t64_35) 65 t65_36) 2 (.slice none 0 0)) 3 (.bool false)) H) (fun Q41 => Q41
  .normal (upd (upd (upd (upd (upd (upd (upd (upd (upd (upd (upd (upd (upd (upd (upd (upd (upd (upd (upd (upd (upd (upd (upd (upd (upd (upd e15 40 (e15 6)) 41 t41_16) 42
  (e15 4)) 43 t43_17) 44 t43_17) 45 t45_18) 46 t46_19) 47 t47_20) 48 t48_21) 49 t49_22) 50 t50_23) 51 t50_23) 52 t52_24) 53 t53_25) 54 t54_26) 55 t55_27) 56 t56_28) 57
  t57_29) 58 t58_30) 59 t58_30) 60 t60_31) 61 t61_32) 62 t62_33) 63 t63_34) 64 t64_35) 65 t65_36) H) Q37) (fn [(.t 2), (.t 3)] R)) fun Q14 => jn (blk 0 Q14) fun Q42 =>
  WL S b130_0 (upd (upd (upd (upd (upd (upd (upd (upd e9 20 (e9 4)) 21 t21_10) 22 t22_11) 6 t22_11) 23 (e9 5)) 24 t24_12) 25 t25_13) 26 (.int .i64 0)) H Q42) (fn [(.t
  2), (.t 3)] R)) fun Q8 => cnd t19_7 (fun Q43 => Q43 .ret (upd (upd (upd (upd (upd (upd (upd (upd (upd (upd (upd (upd (upd (upd (upd (upd (upd (Env.get [a0]) 2 (.slice
  none 0 0)) 3 (.bool false)) 9 a0) 10 t10_1) 11 t11_2) 12 t12_3) 4 t12_3) 13 a0) 14 t12_3) 15 t15_4) 16 t16_5) 17 t17_6) 5 t17_6) 18 a0) 19 t19_7) 2 (.slice none 0 0))
  3 (.bool false)) H) (fun Q44 => Q44 .normal (upd (upd (upd (upd (upd (upd (upd (upd (upd (upd (upd (upd (upd (upd (upd (Env.get [a0]) 2 (.slice none 0 0)) 3 (.bool
  false)) 9 a0) 10 t10_1) 11 t11_2) 12 t12_3) 4 t12_3) 13 a0) 14 t12_3) 15 t15_4) 16 t16_5) 17 t17_6) 5 t17_6) 18 a0) 19 t19_7) H) Q8
theorem h130 (S : Sys) (a0 : Value) (H : Heap) (R : Kv) : wpC S k130.body (Env.get [a0]) H (fn [(.t 2), (.t 3)] R) = s130 S a0 H R := by kernel_rfl
theorem w130 {S : Sys} (hR : S.R 130 = none) (hF : S.F 130 = some k130) (a0 : Value) {H : Heap} {R : Kv} (h : s130 S a0 H R) : Wf S 130 [a0] H R := Wf_sh hR hF ((h130 S
  a0 H R).mpr h)
end Go.Proofs.Ytlboioplemlneaa.K
