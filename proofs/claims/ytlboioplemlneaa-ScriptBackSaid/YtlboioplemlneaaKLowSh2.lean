/- The functions as nested words with named values, each held against its code by the kernel. Printed by a program of this work (sh.py). -/
import Derived.Test.YtlboioplemlneaaKLowSh1
set_option maxRecDepth 100000
set_option linter.unusedVariables false
namespace Go.Proofs.Ytlboioplemlneaa.K
open Go Go.Proofs
def s49 (S : Sys) (a0 : Value) (H : Heap) (R : Kv) : Prop := run S (.build [(.string (bs [])), (.bool false)] [(0, (1, (.c a0)))]) [] H fun t4_1 H => run S (.box 134 (.c
  t4_1)) [] H fun t5_2 H => R t5_2 H
theorem h49 (S : Sys) (a0 : Value) (H : Heap) (R : Kv) : wpC S k49.body (Env.get [a0]) H (fn [(.t 2)] R) = s49 S a0 H R := by kernel_rfl
theorem w49 {S : Sys} (hR : S.R 49 = none) (hF : S.F 49 = some k49) (a0 : Value) {H : Heap} {R : Kv} (h : s49 S a0 H R) : Wf S 49 [a0] H R := Wf_sh hR hF ((h49 S a0 H
  R).mpr h)
def b50_0 : KCode := (.seq (.seq (.reg [(.op (some 4) none (.mv (.t 0))), (.op (some 5) none (.bin .geq (.t 4) (.c (.int .u64 128))))]) (.cond (.t 5) .skip (.exit 0)))
  (.block 1 (.seq (.reg [(.op (some 6) none (.mv (.t 3))), (.op (some 7) none (.mv (.t 0))), (.op (some 8) none (.bin .rem (.t 7) (.c (.int .u64 128)))), (.op (some 9)
  none (.bin .add (.t 8) (.c (.int .u64 128)))), (.op (some 10) none (.cvt .u8 (.t 9))), (.op (some 11) none (.bsl 5 1 [(.int .u8 0)] [(0, (1, (.t 10)))])), (.op (some
  12) none (.b2s 5 (.t 11))), (.op (some 13) none (.bin .add (.t 6) (.t 12))), (.op (some 3) none (.mv (.t 13)))]) (.reg [(.op (some 14) none (.mv (.t 0))), (.op (some
  15) none (.bin .quo (.t 14) (.c (.int .u64 128)))), (.op (some 0) none (.mv (.t 15)))]))))
def s50_0 (S : Sys) (e : Fe) (H : Heap) (Q : Kx) : Prop := run S (.bin .geq (.c (e 0)) (.c (.int .u64 128))) [] H fun t5_8 H => jn (sq (fun e10 H => run S (.bin .rem (.c
  (e10 0)) (.c (.int .u64 128))) [] H fun t8_11 H => run S (.bin .add (.c t8_11) (.c (.int .u64 128))) [] H fun t9_12 H => run S (.cvt .u8 (.c t9_12)) [] H fun t10_13 H
  => run S (.bsl 5 1 [(.int .u8 0)] [(0, (1, (.c t10_13)))]) [] H fun t11_14 H => run S (.b2s 5 (.c t11_14)) [] H fun t12_15 H => run S (.bin .add (.c (e10 3)) (.c
  t12_15)) [] H fun t13_16 H => run S (.bin .quo (.c (e10 0)) (.c (.int .u64 128))) [] H fun t15_17 H => Q .normal (upd (upd (upd (upd (upd (upd (upd (upd (upd (upd (upd
  (upd e10 6 (e10 3)) 7 (e10 0)) 8 t8_11) 9 t9_12) 10 t10_13) 11 t11_14) 12 t12_15) 13 t13_16) 3 t13_16) 14 (e10 0)) 15 t15_17) 0 t15_17) H) Q) fun Q9 => cnd t5_8 (fun
  Q18 => Q18 .normal (upd (upd e 4 (e 0)) 5 t5_8) H) (fun Q19 => Q19 (.exit 0) (upd (upd e 4 (e 0)) 5 t5_8) H) Q9
theorem h50_0 (S : Sys) (e : Fe) (H : Heap) (Q : Kx) : wpC S b50_0 e H Q = s50_0 S e H Q := by kernel_rfl
theorem l50_0 (S : Sys) {Q : Kx} (I : Nat → Fe → Heap → Prop) (d : Nat) {e0 : Fe} {H : Heap} (h0 : I d e0 H) (hr : ∀ (d : Nat) (e : Fe) (H : Heap), I d e H → s50_0 S e H
  (sq (fun e' H' => ∃ d', d' < d ∧ I d' e' H') Q)) : WL S b50_0 e0 H Q := WL_inv I d h0 fun d e H hi => (h50_0 S e H _).mpr (hr d e H hi)
theorem u50_0 (S : Sys) {Q : Kx} {e : Fe} {H : Heap} (h : s50_0 S e H (sq (fun e' H' => WL S b50_0 e' H' Q) Q)) : WL S b50_0 e H Q := WL_once ((h50_0 S e H _).mpr h)
def s50 (S : Sys) (a0 : Value) (H : Heap) (R : Kv) : Prop := jn (sq (fun e2 H => run S (.cvt .u8 (.c (e2 0))) [] H fun t18_3 H => run S (.bsl 5 1 [(.int .u8 0)] [(0, (1,
  (.c t18_3)))]) [] H fun t19_4 H => run S (.b2s 5 (.c t19_4)) [] H fun t20_5 H => run S (.bin .add (.c (e2 3)) (.c t20_5)) [] H fun t21_6 H => R t21_6 H) (fn [(.t 2)]
  R)) fun Q1 => jn (blk 0 Q1) fun Q7 => WL S b50_0 (upd (upd (Env.get [a0]) 2 (.string (bs []))) 3 (.string (bs []))) H Q7
theorem h50 (S : Sys) (a0 : Value) (H : Heap) (R : Kv) : wpC S k50.body (Env.get [a0]) H (fn [(.t 2)] R) = s50 S a0 H R := by kernel_rfl
theorem w50 {S : Sys} (hR : S.R 50 = none) (hF : S.F 50 = some k50) (a0 : Value) {H : Heap} {R : Kv} (h : s50 S a0 H R) : Wf S 50 [a0] H R := Wf_sh hR hF ((h50 S a0 H
  R).mpr h)
def s51 (S : Sys) (a0 : Value) (H : Heap) (R : Kv) : Prop := run S (.lenS (.c a0)) [] H fun t4_1 H => run S (.cvt .u64 (.c t4_1)) [] H fun t5_2 H => run S (.call 50 [(.c
  t5_2)]) [] H fun t6_3 H => run S (.bin .add (.c t6_3) (.c a0)) [] H fun t8_4 H => R t8_4 H
theorem h51 (S : Sys) (a0 : Value) (H : Heap) (R : Kv) : wpC S k51.body (Env.get [a0]) H (fn [(.t 2)] R) = s51 S a0 H R := by kernel_rfl
theorem w51 {S : Sys} (hR : S.R 51 = none) (hF : S.F 51 = some k51) (a0 : Value) {H : Heap} {R : Kv} (h : s51 S a0 H R) : Wf S 51 [a0] H R := Wf_sh hR hF ((h51 S a0 H
  R).mpr h)
def b52_0 : KCode := (.seq (.reg [(.op (some 12) none (.bin .lss (.t 11) (.t 10)))]) (.seq (.cond (.t 12) .skip (.exit 0)) (.seq (.block 1 (.seq (.reg [(.op (some 13)
  none (.mv (.t 0))), (.op (some 14) none (.mv (.t 0))), (.op (some 15) none (.nck (.t 14))), (.op (some 16) none (.fad 0 (.t 15))), (.op (some 17) none (.ld (.t 16))),
  (.op (some 18) none (.mv (.t 1))), (.op (some 19) none (.cvt .u8 (.t 18))), (.op (some 20) none (.bsl 5 1 [(.int .u8 0)] [(0, (1, (.t 19)))])), (.op (some 21) none
  (.app 5 1 1 (.t 17) (.t 20))), (.op (some 22) none (.nck (.t 13))), (.op (some 23) none (.fad 0 (.t 22))), (.op none none (.st (.t 23) (.t 21)))]) (.reg [(.op (some
  24) none (.mv (.t 1))), (.op (some 25) none (.bin .shr (.t 24) (.c (.int .u64 8)))), (.op (some 1) none (.mv (.t 25)))]))) (.reg [(.op (some 26) none (.bin .add (.t
  11) (.c (.int .i64 1)))), (.op (some 11) none (.mv (.t 26)))]))))
def s52_0 (S : Sys) (e : Fe) (H : Heap) (Q : Kx) : Prop := run S (.bin .lss (.c (e 11)) (.c (e 10))) [] H fun t12_10 H => jn (sq (fun e12 H => jn (sq (fun e14 H => run S
  (.bin .add (.c (e14 11)) (.c (.int .i64 1))) [] H fun t26_15 H => Q .normal (upd (upd e14 26 t26_15) 11 t26_15) H) Q) fun Q13 => run S (.nck (.c (e12 0))) [] H fun
  t15_16 H => run S (.fad 0 (.c t15_16)) [] H fun t16_17 H => run S (.ld (.c t16_17)) [] H fun t17_18 H => run S (.cvt .u8 (.c (e12 1))) [] H fun t19_19 H => run S (.bsl
  5 1 [(.int .u8 0)] [(0, (1, (.c t19_19)))]) [] H fun t20_20 H => run S (.app 5 1 1 (.c t17_18) (.c t20_20)) [] H fun t21_21 H => run S (.nck (.c (e12 0))) [] H fun
  t22_22 H => run S (.fad 0 (.c t22_22)) [] H fun t23_23 H => run S (.st (.c t23_23) (.c t21_21)) [] H fun _ H => run S (.bin .shr (.c (e12 1)) (.c (.int .u64 8))) [] H
  fun t25_24 H => Q13 .normal (upd (upd (upd (upd (upd (upd (upd (upd (upd (upd (upd (upd (upd (upd e12 13 (e12 0)) 14 (e12 0)) 15 t15_16) 16 t16_17) 17 t17_18) 18 (e12
  1)) 19 t19_19) 20 t20_20) 21 t21_21) 22 t22_22) 23 t23_23) 24 (e12 1)) 25 t25_24) 1 t25_24) H) Q) fun Q11 => cnd t12_10 (fun Q25 => Q25 .normal (upd e 12 t12_10) H)
  (fun Q26 => Q26 (.exit 0) (upd e 12 t12_10) H) Q11
theorem h52_0 (S : Sys) (e : Fe) (H : Heap) (Q : Kx) : wpC S b52_0 e H Q = s52_0 S e H Q := by kernel_rfl
theorem l52_0 (S : Sys) {Q : Kx} (I : Nat → Fe → Heap → Prop) (d : Nat) {e0 : Fe} {H : Heap} (h0 : I d e0 H) (hr : ∀ (d : Nat) (e : Fe) (H : Heap), I d e H → s52_0 S e H
  (sq (fun e' H' => ∃ d', d' < d ∧ I d' e' H') Q)) : WL S b52_0 e0 H Q := WL_inv I d h0 fun d e H hi => (h52_0 S e H _).mpr (hr d e H hi)
theorem u52_0 (S : Sys) {Q : Kx} {e : Fe} {H : Heap} (h : s52_0 S e H (sq (fun e' H' => WL S b52_0 e' H' Q) Q)) : WL S b52_0 e H Q := WL_once ((h52_0 S e H _).mpr h)
def s52 (S : Sys) (a0 a1 a2 : Value) (H : Heap) (R : Kv) : Prop := run S (.eqv .ptr false (.c a0) (.c (.pointer none))) [] H fun t8_1 H => jn (sq (fun e3 H => run S
  (.call 105 [(.c (e3 2))]) [] H fun t10_4 H => jn (sq (fun e6 H => R (e6 0) H) (fn [(.t 6)] R)) fun Q5 => jn (blk 0 Q5) fun Q7 => WL S b52_0 (upd (upd (upd e3 9 (e3 2))
  10 t10_4) 11 (.int .i64 0)) H Q7) (fn [(.t 6)] R)) fun Q2 => cnd t8_1 (fun Q8 => Q8 .ret (upd (upd (upd (upd (Env.get [a0, a1, a2]) 6 (.pointer none)) 7 a0) 8 t8_1) 6
  (.pointer none)) H) (fun Q9 => Q9 .normal (upd (upd (upd (Env.get [a0, a1, a2]) 6 (.pointer none)) 7 a0) 8 t8_1) H) Q2
theorem h52 (S : Sys) (a0 a1 a2 : Value) (H : Heap) (R : Kv) : wpC S k52.body (Env.get [a0, a1, a2]) H (fn [(.t 6)] R) = s52 S a0 a1 a2 H R := by kernel_rfl
theorem w52 {S : Sys} (hR : S.R 52 = none) (hF : S.F 52 = some k52) (a0 a1 a2 : Value) {H : Heap} {R : Kv} (h : s52 S a0 a1 a2 H R) : Wf S 52 [a0, a1, a2] H R := Wf_sh
  hR hF ((h52 S a0 a1 a2 H R).mpr h)
def b53_0 : KCode := (.seq (.seq (.reg [(.op (some 7) none (.mv (.t 1))), (.op (some 8) none (.bin .gtr (.t 7) (.c (.int .u64 127))))]) (.cond (.t 8) .skip (.exit 0)))
  (.block 1 (.seq (.reg [(.op (some 9) none (.mv (.t 0))), (.op (some 10) none (.mv (.t 0))), (.op (some 11) none (.nck (.t 10))), (.op (some 12) none (.fad 0 (.t 11))),
  (.op (some 13) none (.ld (.t 12))), (.op (some 14) none (.mv (.t 1))), (.op (some 15) none (.cvt .u8 (.t 14))), (.op (some 16) none (.bin .or (.t 15) (.c (.int .u8
  128)))), (.op (some 17) none (.bsl 5 1 [(.int .u8 0)] [(0, (1, (.t 16)))])), (.op (some 18) none (.app 5 1 1 (.t 13) (.t 17))), (.op (some 19) none (.nck (.t 9))),
  (.op (some 20) none (.fad 0 (.t 19))), (.op none none (.st (.t 20) (.t 18)))]) (.reg [(.op (some 21) none (.mv (.t 1))), (.op (some 22) none (.bin .shr (.t 21) (.c
  (.int .u64 7)))), (.op (some 1) none (.mv (.t 22)))]))))
def s53_0 (S : Sys) (e : Fe) (H : Heap) (Q : Kx) : Prop := run S (.bin .gtr (.c (e 1)) (.c (.int .u64 127))) [] H fun t8_17 H => jn (sq (fun e19 H => run S (.nck (.c
  (e19 0))) [] H fun t11_20 H => run S (.fad 0 (.c t11_20)) [] H fun t12_21 H => run S (.ld (.c t12_21)) [] H fun t13_22 H => run S (.cvt .u8 (.c (e19 1))) [] H fun
  t15_23 H => run S (.bin .or (.c t15_23) (.c (.int .u8 128))) [] H fun t16_24 H => run S (.bsl 5 1 [(.int .u8 0)] [(0, (1, (.c t16_24)))]) [] H fun t17_25 H => run S
  (.app 5 1 1 (.c t13_22) (.c t17_25)) [] H fun t18_26 H => run S (.nck (.c (e19 0))) [] H fun t19_27 H => run S (.fad 0 (.c t19_27)) [] H fun t20_28 H => run S (.st (.c
  t20_28) (.c t18_26)) [] H fun _ H => run S (.bin .shr (.c (e19 1)) (.c (.int .u64 7))) [] H fun t22_29 H => Q .normal (upd (upd (upd (upd (upd (upd (upd (upd (upd (upd
  (upd (upd (upd (upd (upd e19 9 (e19 0)) 10 (e19 0)) 11 t11_20) 12 t12_21) 13 t13_22) 14 (e19 1)) 15 t15_23) 16 t16_24) 17 t17_25) 18 t18_26) 19 t19_27) 20 t20_28) 21
  (e19 1)) 22 t22_29) 1 t22_29) H) Q) fun Q18 => cnd t8_17 (fun Q30 => Q30 .normal (upd (upd e 7 (e 1)) 8 t8_17) H) (fun Q31 => Q31 (.exit 0) (upd (upd e 7 (e 1)) 8
  t8_17) H) Q18
theorem h53_0 (S : Sys) (e : Fe) (H : Heap) (Q : Kx) : wpC S b53_0 e H Q = s53_0 S e H Q := by kernel_rfl
theorem l53_0 (S : Sys) {Q : Kx} (I : Nat → Fe → Heap → Prop) (d : Nat) {e0 : Fe} {H : Heap} (h0 : I d e0 H) (hr : ∀ (d : Nat) (e : Fe) (H : Heap), I d e H → s53_0 S e H
  (sq (fun e' H' => ∃ d', d' < d ∧ I d' e' H') Q)) : WL S b53_0 e0 H Q := WL_inv I d h0 fun d e H hi => (h53_0 S e H _).mpr (hr d e H hi)
theorem u53_0 (S : Sys) {Q : Kx} {e : Fe} {H : Heap} (h : s53_0 S e H (sq (fun e' H' => WL S b53_0 e' H' Q) Q)) : WL S b53_0 e H Q := WL_once ((h53_0 S e H _).mpr h)
def s53 (S : Sys) (a0 a1 : Value) (H : Heap) (R : Kv) : Prop := run S (.eqv .ptr false (.c a0) (.c (.pointer none))) [] H fun t6_1 H => jn (sq (fun e3 H => jn (sq (fun
  e5 H => run S (.nck (.c (e5 0))) [] H fun t25_6 H => run S (.fad 0 (.c t25_6)) [] H fun t26_7 H => run S (.ld (.c t26_7)) [] H fun t27_8 H => run S (.cvt .u8 (.c (e5
  1))) [] H fun t29_9 H => run S (.bsl 5 1 [(.int .u8 0)] [(0, (1, (.c t29_9)))]) [] H fun t30_10 H => run S (.app 5 1 1 (.c t27_8) (.c t30_10)) [] H fun t31_11 H => run
  S (.nck (.c (e5 0))) [] H fun t32_12 H => run S (.fad 0 (.c t32_12)) [] H fun t33_13 H => run S (.st (.c t33_13) (.c t31_11)) [] H fun _ H => R (e5 0) H) (fn [(.t 4)]
  R)) fun Q4 => jn (blk 0 Q4) fun Q14 => WL S b53_0 e3 H Q14) (fn [(.t 4)] R)) fun Q2 => cnd t6_1 (fun Q15 => Q15 .ret (upd (upd (upd (upd (Env.get [a0, a1]) 4 (.pointer
  none)) 5 a0) 6 t6_1) 4 (.pointer none)) H) (fun Q16 => Q16 .normal (upd (upd (upd (Env.get [a0, a1]) 4 (.pointer none)) 5 a0) 6 t6_1) H) Q2
theorem h53 (S : Sys) (a0 a1 : Value) (H : Heap) (R : Kv) : wpC S k53.body (Env.get [a0, a1]) H (fn [(.t 4)] R) = s53 S a0 a1 H R := by kernel_rfl
theorem w53 {S : Sys} (hR : S.R 53 = none) (hF : S.F 53 = some k53) (a0 a1 : Value) {H : Heap} {R : Kv} (h : s53 S a0 a1 H R) : Wf S 53 [a0, a1] H R := Wf_sh hR hF ((h53
  S a0 a1 H R).mpr h)
def s54 (S : Sys) (a0 a1 : Value) (H : Heap) (R : Kv) : Prop := run S (.lenS (.c a1)) [] H fun t7_1 H => run S (.cvt .u64 (.c t7_1)) [] H fun t8_2 H => run S (.call 53
  [(.c a0), (.c t8_2)]) [] H fun t9_3 H => run S (.call 97 [(.c t9_3), (.c a1)]) [] H fun t11_4 H => R t11_4 H
theorem h54 (S : Sys) (a0 a1 : Value) (H : Heap) (R : Kv) : wpC S k54.body (Env.get [a0, a1]) H (fn [(.t 4)] R) = s54 S a0 a1 H R := by kernel_rfl
theorem w54 {S : Sys} (hR : S.R 54 = none) (hF : S.F 54 = some k54) (a0 a1 : Value) {H : Heap} {R : Kv} (h : s54 S a0 a1 H R) : Wf S 54 [a0, a1] H R := Wf_sh hR hF ((h54
  S a0 a1 H R).mpr h)
def s55 (S : Sys) (a0 : Value) (H : Heap) (R : Kv) : Prop := run S (.eqv .ptr false (.c a0) (.c (.pointer none))) [] H fun t4_1 H => jn (sq (fun e3 H => run S (.nck (.c
  (e3 0))) [] H fun t6_4 H => run S (.fad 0 (.c t6_4)) [] H fun t7_5 H => run S (.ld (.c t7_5)) [] H fun t8_6 H => run S (.b2s 5 (.c t8_6)) [] H fun t9_7 H => R t9_7 H)
  (fn [(.t 2)] R)) fun Q2 => cnd t4_1 (fun Q8 => Q8 .ret (upd (upd (upd (upd (Env.get [a0]) 2 (.string (bs []))) 3 a0) 4 t4_1) 2 (.string (bs []))) H) (fun Q9 => Q9
  .normal (upd (upd (upd (Env.get [a0]) 2 (.string (bs []))) 3 a0) 4 t4_1) H) Q2
theorem h55 (S : Sys) (a0 : Value) (H : Heap) (R : Kv) : wpC S k55.body (Env.get [a0]) H (fn [(.t 2)] R) = s55 S a0 H R := by kernel_rfl
theorem w55 {S : Sys} (hR : S.R 55 = none) (hF : S.F 55 = some k55) (a0 : Value) {H : Heap} {R : Kv} (h : s55 S a0 H R) : Wf S 55 [a0] H R := Wf_sh hR hF ((h55 S a0 H
  R).mpr h)
def s56 (S : Sys) (a0 : Value) (H : Heap) (R : Kv) : Prop := run S (.alloc 25 [(.int .i64 0), (.int .i64 0), (.int .i64 0), (.bool false), (.string (bs []))]) [] H fun
  t2_1 H => run S (.call 99 [(.c a0), (.c (.int .i64 1))]) [] H fun t7_2 H => run S (.cvt .i64 (.c t7_2)) [] H fun t8_3 H => run S (.bin .and (.c t8_3) (.c (.int .i64
  15))) [] H fun t10_4 H => run S (.bin .and (.c t8_3) (.c (.int .i64 16))) [] H fun t12_5 H => run S (.bin .neq (.c t12_5) (.c (.int .i64 0))) [] H fun t13_6 H => run S
  (.call 99 [(.c a0), (.c (.int .i64 1))]) [] H fun t15_7 H => run S (.cvt .i64 (.c t15_7)) [] H fun t16_8 H => run S (.call 100 [(.c a0), (.c (.int .i64 1073741824))])
  [] H fun t18_9 H => run S (.call 106 [(.c a0), (.c (.int .i64 600))]) [] H fun t20_10 H => run S (.build [(.int .i64 0), (.int .i64 0), (.int .i64 0), (.bool false),
  (.string (bs []))] [(0, (1, (.c t10_4))), (3, (1, (.c t13_6))), (1, (1, (.c t16_8))), (2, (1, (.c t18_9))), (4, (1, (.c t20_10)))]) [] H fun t21_11 H => run S (.alloc
  25 [(.int .i64 0), (.int .i64 0), (.int .i64 0), (.bool false), (.string (bs []))]) [] H fun t5_12 H => run S (.stn 5 (.c t5_12) (.c t21_11)) [] H fun _ H => run S
  (.ldn 5 (.c t5_12)) [] H fun t22_13 H => run S (.call 101 [(.c a0)]) [] H fun t24_14 H => ck (kop (.ldn 5 (.c t5_12)) [] H) t22_13 (run S (.un .not (.c t24_14)) [] H
  fun t25_15 H => gd t25_15 true (run S (.mv (.c t8_3)) [] H) H fun t27_16 H => gd t25_15 true (run S (.bin .leq (.c t27_16) (.c (.int .i64 31))) [] H) H fun t28_17 H =>
  run S (.pick (.c t25_15) (.c t28_17) (.c (.bool false))) [] H fun t29_18 H => gd t29_18 true (run S (.ldn 5 (.c t5_12)) [] H) H fun t31_19 H => gd t29_18 true (run S
  (.call 14 [(.c t31_19)]) [] H) H fun t32_20 H => ck (kop (.ldn 5 (.c t5_12)) [] H) t22_13 (run S (.pick (.c t29_18) (.c t32_20) (.c (.bool false))) [] H fun t33_21 H
  => run S (.stn 5 (.c t2_1) (.c t22_13)) [] H fun _ H => (fn [(.cn 2 5), (.t 3)] R) .ret (upd (upd (upd (upd (upd (upd (upd (upd (upd (upd (upd (upd (upd (upd (upd (upd
  (upd (upd (upd (upd (upd (upd (upd (upd (upd (upd (upd (upd (upd (upd (upd (upd (upd (Env.get [a0]) 2 t2_1) 3 (.bool false)) 6 a0) 7 t7_2) 8 t8_3) 4 t8_3) 9 t8_3) 10
  t10_4) 11 t8_3) 12 t12_5) 13 t13_6) 14 a0) 15 t15_7) 16 t16_8) 17 a0) 18 t18_9) 19 a0) 20 t20_10) 21 t21_11) 5 t5_12) 22 t22_13) 23 a0) 24 t24_14) 25 t25_15) 26
  t25_15) 27 t27_16) 28 t28_17) 29 t29_18) 30 t29_18) 31 t31_19) 32 t32_20) 33 t33_21) 3 t33_21) H))
theorem h56 (S : Sys) (a0 : Value) (H : Heap) (R : Kv) : wpC S k56.body (Env.get [a0]) H (fn [(.cn 2 5), (.t 3)] R) = s56 S a0 H R := by kernel_rfl
theorem w56 {S : Sys} (hR : S.R 56 = none) (hF : S.F 56 = some k56) (a0 : Value) {H : Heap} {R : Kv} (h : s56 S a0 H R) : Wf S 56 [a0] H R := Wf_sh hR hF ((h56 S a0 H
  R).mpr h)
def s57 (S : Sys) (a0 : Value) (H : Heap) (R : Kv) : Prop := run S (.call 101 [(.c a0)]) [] H fun t4_1 H => jn (sq (fun e3 H => run S (.nck (.c (e3 0))) [] H fun t7_4 H
  => run S (.fad 0 (.c t7_4)) [] H fun t8_5 H => run S (.ld (.c t8_5)) [] H fun t9_6 H => run S (.lenS (.c t9_6)) [] H fun t10_7 H => run S (.call 102 [(.c (e3 0)), (.c
  t10_7)]) [] H fun t11_8 H => R t11_8 H) (fn [(.t 2)] R)) fun Q2 => cnd t4_1 (fun Q9 => Q9 .ret (upd (upd (upd (upd (Env.get [a0]) 2 (.string (bs []))) 3 a0) 4 t4_1) 2
  (.string (bs []))) H) (fun Q10 => Q10 .normal (upd (upd (upd (Env.get [a0]) 2 (.string (bs []))) 3 a0) 4 t4_1) H) Q2
theorem h57 (S : Sys) (a0 : Value) (H : Heap) (R : Kv) : wpC S k57.body (Env.get [a0]) H (fn [(.t 2)] R) = s57 S a0 H R := by kernel_rfl
theorem w57 {S : Sys} (hR : S.R 57 = none) (hF : S.F 57 = some k57) (a0 : Value) {H : Heap} {R : Kv} (h : s57 S a0 H R) : Wf S 57 [a0] H R := Wf_sh hR hF ((h57 S a0 H
  R).mpr h)
def b58_1 : KCode := (.seq (.seq (.reg [(.op (some 7) none (.mv (.t 4))), (.op (some 8) none (.mv (.t 0))), (.op (some 9) none (.lenS (.t 8))), (.op (some 10) none (.bin
  .lss (.t 7) (.t 9))), (.op (some 11) none (.mv (.t 10))), (.op (some 12) (some (11, true)) (.mv (.t 0))), (.op (some 13) (some (11, true)) (.mv (.t 4))), (.op (some
  14) (some (11, true)) (.idS (.t 12) (.t 13))), (.op (some 15) (some (11, true)) (.bin .geq (.t 14) (.c (.int .u8 128)))), (.op (some 16) none (.pick (.t 11) (.t 15)
  (.c (.bool false))))]) (.cond (.t 16) .skip (.exit 0))) (.block 1 (.reg [(.op (some 17) none (.mv (.t 4))), (.op (some 18) none (.bin .add (.t 17) (.c (.int .i64
  1)))), (.op (some 4) none (.mv (.t 18)))])))
def s58_1 (S : Sys) (e : Fe) (H : Heap) (Q : Kx) : Prop := run S (.lenS (.c (e 0))) [] H fun t9_44 H => run S (.bin .lss (.c (e 4)) (.c t9_44)) [] H fun t10_45 H => gd
  t10_45 true (run S (.mv (.c (e 0))) [] H) H fun t12_46 H => gd t10_45 true (run S (.mv (.c (e 4))) [] H) H fun t13_47 H => gd t10_45 true (run S (.idS (.c t12_46) (.c
  t13_47)) [] H) H fun t14_48 H => gd t10_45 true (run S (.bin .geq (.c t14_48) (.c (.int .u8 128))) [] H) H fun t15_49 H => run S (.pick (.c t10_45) (.c t15_49) (.c
  (.bool false))) [] H fun t16_50 H => jn (sq (fun e52 H => run S (.bin .add (.c (e52 4)) (.c (.int .i64 1))) [] H fun t18_53 H => Q .normal (upd (upd (upd e52 17 (e52
  4)) 18 t18_53) 4 t18_53) H) Q) fun Q51 => cnd t16_50 (fun Q54 => Q54 .normal (upd (upd (upd (upd (upd (upd (upd (upd (upd (upd e 7 (e 4)) 8 (e 0)) 9 t9_44) 10 t10_45)
  11 t10_45) 12 t12_46) 13 t13_47) 14 t14_48) 15 t15_49) 16 t16_50) H) (fun Q55 => Q55 (.exit 0) (upd (upd (upd (upd (upd (upd (upd (upd (upd (upd e 7 (e 4)) 8 (e 0)) 9
  t9_44) 10 t10_45) 11 t10_45) 12 t12_46) 13 t13_47) 14 t14_48) 15 t15_49) 16 t16_50) H) Q51
theorem h58_1 (S : Sys) (e : Fe) (H : Heap) (Q : Kx) : wpC S b58_1 e H Q = s58_1 S e H Q := by kernel_rfl
theorem l58_1 (S : Sys) {Q : Kx} (I : Nat → Fe → Heap → Prop) (d : Nat) {e0 : Fe} {H : Heap} (h0 : I d e0 H) (hr : ∀ (d : Nat) (e : Fe) (H : Heap), I d e H → s58_1 S e H
  (sq (fun e' H' => ∃ d', d' < d ∧ I d' e' H') Q)) : WL S b58_1 e0 H Q := WL_inv I d h0 fun d e H hi => (h58_1 S e H _).mpr (hr d e H hi)
theorem u58_1 (S : Sys) {Q : Kx} {e : Fe} {H : Heap} (h : s58_1 S e H (sq (fun e' H' => WL S b58_1 e' H' Q) Q)) : WL S b58_1 e H Q := WL_once ((h58_1 S e H _).mpr h)
def b58_0 : KCode := (.seq (.seq (.reg [(.op (some 28) none (.mv (.t 6))), (.op (some 29) none (.bin .geq (.t 28) (.c (.int .i64 0))))]) (.cond (.t 29) .skip (.exit 2)))
  (.seq (.block 3 (.seq (.seq (.reg [(.op (some 32) none (.mv (.t 5))), (.op (some 33) none (.bin .gtr (.t 32) (.c (.int .u64 144115188075855871))))]) (.cond (.t 33)
  (.seq (.reg [(.op (some 2) none (.mv (.c (.int .u64 0)))), (.op (some 3) none (.mv (.c (.int .i64 0))))]) .ret) .skip)) (.reg [(.op (some 34) none (.mv (.t 5))), (.op
  (some 35) none (.bin .mul (.t 34) (.c (.int .u64 128)))), (.op (some 36) none (.mv (.t 0))), (.op (some 37) none (.mv (.t 6))), (.op (some 38) none (.idS (.t 36) (.t
  37))), (.op (some 39) none (.bin .rem (.t 38) (.c (.int .u8 128)))), (.op (some 40) none (.cvt .u64 (.t 39))), (.op (some 41) none (.bin .add (.t 35) (.t 40))), (.op
  (some 5) none (.mv (.t 41)))]))) (.reg [(.op (some 30) none (.mv (.t 6))), (.op (some 31) none (.bin .sub (.t 30) (.c (.int .i64 1)))), (.op (some 6) none (.mv (.t
  31)))])))
def s58_0 (S : Sys) (e : Fe) (H : Heap) (Q : Kx) : Prop := run S (.bin .geq (.c (e 6)) (.c (.int .i64 0))) [] H fun t29_25 H => jn (sq (fun e27 H => jn (sq (fun e29 H =>
  run S (.bin .sub (.c (e29 6)) (.c (.int .i64 1))) [] H fun t31_30 H => Q .normal (upd (upd (upd e29 30 (e29 6)) 31 t31_30) 6 t31_30) H) Q) fun Q28 => run S (.bin .gtr
  (.c (e27 5)) (.c (.int .u64 144115188075855871))) [] H fun t33_31 H => jn (blk 3 Q28) fun Q32 => jn (sq (fun e34 H => run S (.bin .mul (.c (e34 5)) (.c (.int .u64
  128))) [] H fun t35_35 H => run S (.idS (.c (e34 0)) (.c (e34 6))) [] H fun t38_36 H => run S (.bin .rem (.c t38_36) (.c (.int .u8 128))) [] H fun t39_37 H => run S
  (.cvt .u64 (.c t39_37)) [] H fun t40_38 H => run S (.bin .add (.c t35_35) (.c t40_38)) [] H fun t41_39 H => Q32 .normal (upd (upd (upd (upd (upd (upd (upd (upd (upd
  e34 34 (e34 5)) 35 t35_35) 36 (e34 0)) 37 (e34 6)) 38 t38_36) 39 t39_37) 40 t40_38) 41 t41_39) 5 t41_39) H) Q32) fun Q33 => cnd t33_31 (fun Q40 => Q40 .ret (upd (upd
  (upd (upd e27 32 (e27 5)) 33 t33_31) 2 (.int .u64 0)) 3 (.int .i64 0)) H) (fun Q41 => Q41 .normal (upd (upd e27 32 (e27 5)) 33 t33_31) H) Q33) Q) fun Q26 => cnd t29_25
  (fun Q42 => Q42 .normal (upd (upd e 28 (e 6)) 29 t29_25) H) (fun Q43 => Q43 (.exit 2) (upd (upd e 28 (e 6)) 29 t29_25) H) Q26
theorem h58_0 (S : Sys) (e : Fe) (H : Heap) (Q : Kx) : wpC S b58_0 e H Q = s58_0 S e H Q := by kernel_rfl
theorem l58_0 (S : Sys) {Q : Kx} (I : Nat → Fe → Heap → Prop) (d : Nat) {e0 : Fe} {H : Heap} (h0 : I d e0 H) (hr : ∀ (d : Nat) (e : Fe) (H : Heap), I d e H → s58_0 S e H
  (sq (fun e' H' => ∃ d', d' < d ∧ I d' e' H') Q)) : WL S b58_0 e0 H Q := WL_inv I d h0 fun d e H hi => (h58_0 S e H _).mpr (hr d e H hi)
theorem u58_0 (S : Sys) {Q : Kx} {e : Fe} {H : Heap} (h : s58_0 S e H (sq (fun e' H' => WL S b58_0 e' H' Q) Q)) : WL S b58_0 e H Q := WL_once ((h58_0 S e H _).mpr h)
def s58 (S : Sys) (a0 : Value) (H : Heap) (R : Kv) : Prop := jn (sq (fun e2 H => run S (.lenS (.c (e2 0))) [] H fun t21_3 H => run S (.bin .eql (.c (e2 4)) (.c t21_3))
  [] H fun t22_4 H => gd t22_4 false (run S (.mv (.c (e2 4))) [] H) H fun t24_5 H => gd t22_4 false (run S (.bin .gtr (.c t24_5) (.c (.int .i64 9))) [] H) H fun t25_6 H
  => run S (.pick (.c t22_4) (.c (.bool true)) (.c t25_6)) [] H fun t26_7 H => jn (sq (fun e9 H => jn (sq (fun e11 H => run S (.bin .add (.c (e11 4)) (.c (.int .i64 1)))
  [] H fun t46_12 H => run S (.slS (.c (e11 0)) none (some (.c t46_12))) [] H fun t47_13 H => run S (.call 50 [(.c (e11 5))]) [] H fun t43_14 H => run S (.bin .neq (.c
  t43_14) (.c t47_13)) [] H fun t48_15 H => jn (sq (fun e17 H => run S (.bin .add (.c (e17 4)) (.c (.int .i64 1))) [] H fun t51_18 H => R (tup [(e17 5), t51_18]) H) (fn
  [(.t 2), (.t 3)] R)) fun Q16 => cnd t48_15 (fun Q19 => Q19 .ret (upd (upd (upd (upd (upd (upd (upd (upd (upd e11 42 (e11 5)) 44 (e11 0)) 45 (e11 4)) 46 t46_12) 47
  t47_13) 43 t43_14) 48 t48_15) 2 (.int .u64 0)) 3 (.int .i64 0)) H) (fun Q20 => Q20 .normal (upd (upd (upd (upd (upd (upd (upd e11 42 (e11 5)) 44 (e11 0)) 45 (e11 4))
  46 t46_12) 47 t47_13) 43 t43_14) 48 t48_15) H) Q16) (fn [(.t 2), (.t 3)] R)) fun Q10 => jn (blk 2 Q10) fun Q21 => WL S b58_0 (upd (upd (upd e9 5 (.int .u64 0)) 27 (e9
  4)) 6 (e9 4)) H Q21) (fn [(.t 2), (.t 3)] R)) fun Q8 => cnd t26_7 (fun Q22 => Q22 .ret (upd (upd (upd (upd (upd (upd (upd (upd (upd (upd e2 19 (e2 4)) 20 (e2 0)) 21
  t21_3) 22 t22_4) 23 t22_4) 24 t24_5) 25 t25_6) 26 t26_7) 2 (.int .u64 0)) 3 (.int .i64 0)) H) (fun Q23 => Q23 .normal (upd (upd (upd (upd (upd (upd (upd (upd e2 19 (e2
  4)) 20 (e2 0)) 21 t21_3) 22 t22_4) 23 t22_4) 24 t24_5) 25 t25_6) 26 t26_7) H) Q8) (fn [(.t 2), (.t 3)] R)) fun Q1 => jn (blk 0 Q1) fun Q24 => WL S b58_1 (upd (upd (upd
  (Env.get [a0]) 2 (.int .u64 0)) 3 (.int .i64 0)) 4 (.int .i64 0)) H Q24
theorem h58 (S : Sys) (a0 : Value) (H : Heap) (R : Kv) : wpC S k58.body (Env.get [a0]) H (fn [(.t 2), (.t 3)] R) = s58 S a0 H R := by kernel_rfl
theorem w58 {S : Sys} (hR : S.R 58 = none) (hF : S.F 58 = some k58) (a0 : Value) {H : Heap} {R : Kv} (h : s58 S a0 H R) : Wf S 58 [a0] H R := Wf_sh hR hF ((h58 S a0 H
  R).mpr h)
def b59_0 : KCode := (.seq (.seq (.reg [(.op (some 4) none (.mv (.t 3))), (.op (some 5) none (.mv (.t 0))), (.op (some 6) none (.lenL (.t 5))), (.op (some 7) none (.bin
  .lss (.t 4) (.t 6)))]) (.cond (.t 7) .skip (.exit 0))) (.seq (.block 1 (.seq (.reg [(.op (some 10) none (.mv (.t 0))), (.op (some 11) none (.mv (.t 3))), (.op (some
  12) none (.iad 1 (.t 10) (.t 11))), (.op (some 13) none (.ld (.t 12))), (.op (some 14) none (.bin .lss (.t 13) (.c (.int .i64 0)))), (.op (some 15) none (.mv (.t
  14))), (.op (some 16) (some (15, false)) (.mv (.t 0))), (.op (some 17) (some (15, false)) (.mv (.t 3))), (.op (some 18) (some (15, false)) (.iad 1 (.t 16) (.t 17))),
  (.op (some 19) (some (15, false)) (.ld (.t 18))), (.op (some 20) (some (15, false)) (.bin .gtr (.t 19) (.c (.int .i64 11)))), (.op (some 21) none (.pick (.t 15) (.c
  (.bool true)) (.t 20)))]) (.cond (.t 21) (.seq (.reg [(.op (some 2) none (.mv (.c (.bool false))))]) .ret) .skip))) (.reg [(.op (some 8) none (.mv (.t 3))), (.op (some
  9) none (.bin .add (.t 8) (.c (.int .i64 1)))), (.op (some 3) none (.mv (.t 9)))])))
def s59_0 (S : Sys) (e : Fe) (H : Heap) (Q : Kx) : Prop := run S (.lenL (.c (e 0))) [] H fun t6_6 H => run S (.bin .lss (.c (e 3)) (.c t6_6)) [] H fun t7_7 H => jn (sq
  (fun e9 H => jn (sq (fun e11 H => run S (.bin .add (.c (e11 3)) (.c (.int .i64 1))) [] H fun t9_12 H => Q .normal (upd (upd (upd e11 8 (e11 3)) 9 t9_12) 3 t9_12) H) Q)
  fun Q10 => run S (.iad 1 (.c (e9 0)) (.c (e9 3))) [] H fun t12_13 H => run S (.ld (.c t12_13)) [] H fun t13_14 H => run S (.bin .lss (.c t13_14) (.c (.int .i64 0))) []
  H fun t14_15 H => gd t14_15 false (run S (.mv (.c (e9 0))) [] H) H fun t16_16 H => gd t14_15 false (run S (.mv (.c (e9 3))) [] H) H fun t17_17 H => gd t14_15 false
  (run S (.iad 1 (.c t16_16) (.c t17_17)) [] H) H fun t18_18 H => gd t14_15 false (run S (.ld (.c t18_18)) [] H) H fun t19_19 H => gd t14_15 false (run S (.bin .gtr (.c
  t19_19) (.c (.int .i64 11))) [] H) H fun t20_20 H => run S (.pick (.c t14_15) (.c (.bool true)) (.c t20_20)) [] H fun t21_21 H => jn (blk 1 Q10) fun Q22 => cnd t21_21
  (fun Q23 => Q23 .ret (upd (upd (upd (upd (upd (upd (upd (upd (upd (upd (upd (upd (upd e9 10 (e9 0)) 11 (e9 3)) 12 t12_13) 13 t13_14) 14 t14_15) 15 t14_15) 16 t16_16)
  17 t17_17) 18 t18_18) 19 t19_19) 20 t20_20) 21 t21_21) 2 (.bool false)) H) (fun Q24 => Q24 .normal (upd (upd (upd (upd (upd (upd (upd (upd (upd (upd (upd (upd e9 10
  (e9 0)) 11 (e9 3)) 12 t12_13) 13 t13_14) 14 t14_15) 15 t14_15) 16 t16_16) 17 t17_17) 18 t18_18) 19 t19_19) 20 t20_20) 21 t21_21) H) Q22) Q) fun Q8 => cnd t7_7 (fun Q25
  => Q25 .normal (upd (upd (upd (upd e 4 (e 3)) 5 (e 0)) 6 t6_6) 7 t7_7) H) (fun Q26 => Q26 (.exit 0) (upd (upd (upd (upd e 4 (e 3)) 5 (e 0)) 6 t6_6) 7 t7_7) H) Q8
theorem h59_0 (S : Sys) (e : Fe) (H : Heap) (Q : Kx) : wpC S b59_0 e H Q = s59_0 S e H Q := by kernel_rfl
theorem l59_0 (S : Sys) {Q : Kx} (I : Nat → Fe → Heap → Prop) (d : Nat) {e0 : Fe} {H : Heap} (h0 : I d e0 H) (hr : ∀ (d : Nat) (e : Fe) (H : Heap), I d e H → s59_0 S e H
  (sq (fun e' H' => ∃ d', d' < d ∧ I d' e' H') Q)) : WL S b59_0 e0 H Q := WL_inv I d h0 fun d e H hi => (h59_0 S e H _).mpr (hr d e H hi)
theorem u59_0 (S : Sys) {Q : Kx} {e : Fe} {H : Heap} (h : s59_0 S e H (sq (fun e' H' => WL S b59_0 e' H' Q) Q)) : WL S b59_0 e H Q := WL_once ((h59_0 S e H _).mpr h)
def s59 (S : Sys) (a0 : Value) (H : Heap) (R : Kv) : Prop := jn (sq (fun e2 H => run S (.lenL (.c (e2 0))) [] H fun t23_3 H => run S (.bin .leq (.c t23_3) (.c (.int .i64
  256))) [] H fun t24_4 H => R t24_4 H) (fn [(.t 2)] R)) fun Q1 => jn (blk 0 Q1) fun Q5 => WL S b59_0 (upd (upd (Env.get [a0]) 2 (.bool false)) 3 (.int .i64 0)) H Q5
theorem h59 (S : Sys) (a0 : Value) (H : Heap) (R : Kv) : wpC S k59.body (Env.get [a0]) H (fn [(.t 2)] R) = s59 S a0 H R := by kernel_rfl
theorem w59 {S : Sys} (hR : S.R 59 = none) (hF : S.F 59 = some k59) (a0 : Value) {H : Heap} {R : Kv} (h : s59 S a0 H R) : Wf S 59 [a0] H R := Wf_sh hR hF ((h59 S a0 H
  R).mpr h)
def b60_0 : KCode := (.seq (.seq (.reg [(.op (some 5) none (.mv (.t 4))), (.op (some 6) none (.mv (.t 0))), (.op (some 7) none (.bin .lss (.t 5) (.t 6)))]) (.cond (.t 7)
  .skip (.exit 0))) (.seq (.block 1 (.reg [(.op (some 10) none (.mv (.t 3))), (.op (some 11) none (.bin .mul (.t 10) (.c (.int .i64 2)))), (.op (some 3) none (.mv (.t
  11)))])) (.reg [(.op (some 8) none (.mv (.t 4))), (.op (some 9) none (.bin .add (.t 8) (.c (.int .i64 1)))), (.op (some 4) none (.mv (.t 9)))])))
def s60_0 (S : Sys) (e : Fe) (H : Heap) (Q : Kx) : Prop := run S (.bin .lss (.c (e 4)) (.c (e 0))) [] H fun t7_4 H => jn (sq (fun e6 H => jn (sq (fun e8 H => run S (.bin
  .add (.c (e8 4)) (.c (.int .i64 1))) [] H fun t9_9 H => Q .normal (upd (upd (upd e8 8 (e8 4)) 9 t9_9) 4 t9_9) H) Q) fun Q7 => run S (.bin .mul (.c (e6 3)) (.c (.int
  .i64 2))) [] H fun t11_10 H => Q7 .normal (upd (upd (upd e6 10 (e6 3)) 11 t11_10) 3 t11_10) H) Q) fun Q5 => cnd t7_4 (fun Q11 => Q11 .normal (upd (upd (upd e 5 (e 4))
  6 (e 0)) 7 t7_4) H) (fun Q12 => Q12 (.exit 0) (upd (upd (upd e 5 (e 4)) 6 (e 0)) 7 t7_4) H) Q5
theorem h60_0 (S : Sys) (e : Fe) (H : Heap) (Q : Kx) : wpC S b60_0 e H Q = s60_0 S e H Q := by kernel_rfl
theorem l60_0 (S : Sys) {Q : Kx} (I : Nat → Fe → Heap → Prop) (d : Nat) {e0 : Fe} {H : Heap} (h0 : I d e0 H) (hr : ∀ (d : Nat) (e : Fe) (H : Heap), I d e H → s60_0 S e H
  (sq (fun e' H' => ∃ d', d' < d ∧ I d' e' H') Q)) : WL S b60_0 e0 H Q := WL_inv I d h0 fun d e H hi => (h60_0 S e H _).mpr (hr d e H hi)
theorem u60_0 (S : Sys) {Q : Kx} {e : Fe} {H : Heap} (h : s60_0 S e H (sq (fun e' H' => WL S b60_0 e' H' Q) Q)) : WL S b60_0 e H Q := WL_once ((h60_0 S e H _).mpr h)
def s60 (S : Sys) (a0 : Value) (H : Heap) (R : Kv) : Prop := jn (sq (fun e2 H => R (e2 3) H) (fn [(.t 2)] R)) fun Q1 => jn (blk 0 Q1) fun Q3 => WL S b60_0 (upd (upd (upd
  (Env.get [a0]) 2 (.int .i64 0)) 3 (.int .i64 1)) 4 (.int .i64 0)) H Q3
theorem h60 (S : Sys) (a0 : Value) (H : Heap) (R : Kv) : wpC S k60.body (Env.get [a0]) H (fn [(.t 2)] R) = s60 S a0 H R := by kernel_rfl
theorem w60 {S : Sys} (hR : S.R 60 = none) (hF : S.F 60 = some k60) (a0 : Value) {H : Heap} {R : Kv} (h : s60 S a0 H R) : Wf S 60 [a0] H R := Wf_sh hR hF ((h60 S a0 H
  R).mpr h)
def b92_0 : KCode := (.seq (.reg [(.op (some 8) none (.bin .lss (.t 7) (.t 6)))]) (.seq (.cond (.t 8) .skip (.exit 0)) (.seq (.block 1 (.seq (.reg [(.op (some 9) none
  (.iad 1 (.t 5) (.t 7))), (.op (some 10) none (.ld (.t 9))), (.op (some 4) none (.mv (.t 10)))]) (.seq (.reg [(.op (some 11) none (.mv (.t 4))), (.op (some 12) none
  (.bin .lss (.t 11) (.c (.int .i64 0)))), (.op (some 13) none (.mv (.t 12))), (.op (some 14) (some (13, false)) (.mv (.t 4))), (.op (some 15) (some (13, false)) (.bin
  .gtr (.t 14) (.c (.int .i64 11)))), (.op (some 16) none (.pick (.t 13) (.c (.bool true)) (.t 15)))]) (.cond (.t 16) (.seq (.reg [(.op (some 2) none (.mv (.c (.bool
  false))))]) .ret) .skip)))) (.reg [(.op (some 17) none (.bin .add (.t 7) (.c (.int .i64 1)))), (.op (some 7) none (.mv (.t 17)))]))))
def s92_0 (S : Sys) (e : Fe) (H : Heap) (Q : Kx) : Prop := run S (.bin .lss (.c (e 7)) (.c (e 6))) [] H fun t8_7 H => jn (sq (fun e9 H => jn (sq (fun e11 H => run S
  (.bin .add (.c (e11 7)) (.c (.int .i64 1))) [] H fun t17_12 H => Q .normal (upd (upd e11 17 t17_12) 7 t17_12) H) Q) fun Q10 => run S (.iad 1 (.c (e9 5)) (.c (e9 7)))
  [] H fun t9_13 H => run S (.ld (.c t9_13)) [] H fun t10_14 H => run S (.bin .lss (.c t10_14) (.c (.int .i64 0))) [] H fun t12_15 H => gd t12_15 false (run S (.mv (.c
  t10_14)) [] H) H fun t14_16 H => gd t12_15 false (run S (.bin .gtr (.c t14_16) (.c (.int .i64 11))) [] H) H fun t15_17 H => run S (.pick (.c t12_15) (.c (.bool true))
  (.c t15_17)) [] H fun t16_18 H => jn (blk 1 Q10) fun Q19 => cnd t16_18 (fun Q20 => Q20 .ret (upd (upd (upd (upd (upd (upd (upd (upd (upd (upd e9 9 t9_13) 10 t10_14) 4
  t10_14) 11 t10_14) 12 t12_15) 13 t12_15) 14 t14_16) 15 t15_17) 16 t16_18) 2 (.bool false)) H) (fun Q21 => Q21 .normal (upd (upd (upd (upd (upd (upd (upd (upd (upd e9 9
  t9_13) 10 t10_14) 4 t10_14) 11 t10_14) 12 t12_15) 13 t12_15) 14 t14_16) 15 t15_17) 16 t16_18) H) Q19) Q) fun Q8 => cnd t8_7 (fun Q22 => Q22 .normal (upd e 8 t8_7) H)
  (fun Q23 => Q23 (.exit 0) (upd e 8 t8_7) H) Q8
theorem h92_0 (S : Sys) (e : Fe) (H : Heap) (Q : Kx) : wpC S b92_0 e H Q = s92_0 S e H Q := by kernel_rfl
theorem l92_0 (S : Sys) {Q : Kx} (I : Nat → Fe → Heap → Prop) (d : Nat) {e0 : Fe} {H : Heap} (h0 : I d e0 H) (hr : ∀ (d : Nat) (e : Fe) (H : Heap), I d e H → s92_0 S e H
  (sq (fun e' H' => ∃ d', d' < d ∧ I d' e' H') Q)) : WL S b92_0 e0 H Q := WL_inv I d h0 fun d e H hi => (h92_0 S e H _).mpr (hr d e H hi)
theorem u92_0 (S : Sys) {Q : Kx} {e : Fe} {H : Heap} (h : s92_0 S e H (sq (fun e' H' => WL S b92_0 e' H' Q) Q)) : WL S b92_0 e H Q := WL_once ((h92_0 S e H _).mpr h)
def s92 (S : Sys) (a0 : Value) (H : Heap) (R : Kv) : Prop := run S (.lenL (.c a0)) [] H fun t6_1 H => jn (sq (fun e3 H => run S (.lenL (.c (e3 0))) [] H fun t19_4 H =>
  run S (.bin .leq (.c t19_4) (.c (.int .i64 256))) [] H fun t20_5 H => R t20_5 H) (fn [(.t 2)] R)) fun Q2 => jn (blk 0 Q2) fun Q6 => WL S b92_0 (upd (upd (upd (upd
  (Env.get [a0]) 2 (.bool false)) 5 a0) 6 t6_1) 7 (.int .i64 0)) H Q6
theorem h92 (S : Sys) (a0 : Value) (H : Heap) (R : Kv) : wpC S k92.body (Env.get [a0]) H (fn [(.t 2)] R) = s92 S a0 H R := by kernel_rfl
theorem w92 {S : Sys} (hR : S.R 92 = none) (hF : S.F 92 = some k92) (a0 : Value) {H : Heap} {R : Kv} (h : s92 S a0 H R) : Wf S 92 [a0] H R := Wf_sh hR hF ((h92 S a0 H
  R).mpr h)
def s97 (S : Sys) (a0 a1 : Value) (H : Heap) (R : Kv) : Prop := run S (.eqv .ptr false (.c a0) (.c (.pointer none))) [] H fun t6_1 H => jn (sq (fun e3 H => run S (.nck
  (.c (e3 0))) [] H fun t9_4 H => run S (.fad 0 (.c t9_4)) [] H fun t10_5 H => run S (.ld (.c t10_5)) [] H fun t11_6 H => run S (.appS 5 (.c t11_6) (.c (e3 1))) [] H fun
  t13_7 H => run S (.nck (.c (e3 0))) [] H fun t14_8 H => run S (.fad 0 (.c t14_8)) [] H fun t15_9 H => run S (.st (.c t15_9) (.c t13_7)) [] H fun _ H => R (e3 0) H) (fn
  [(.t 4)] R)) fun Q2 => cnd t6_1 (fun Q10 => Q10 .ret (upd (upd (upd (upd (Env.get [a0, a1]) 4 (.pointer none)) 5 a0) 6 t6_1) 4 (.pointer none)) H) (fun Q11 => Q11
  .normal (upd (upd (upd (Env.get [a0, a1]) 4 (.pointer none)) 5 a0) 6 t6_1) H) Q2
theorem h97 (S : Sys) (a0 a1 : Value) (H : Heap) (R : Kv) : wpC S k97.body (Env.get [a0, a1]) H (fn [(.t 4)] R) = s97 S a0 a1 H R := by kernel_rfl
theorem w97 {S : Sys} (hR : S.R 97 = none) (hF : S.F 97 = some k97) (a0 a1 : Value) {H : Heap} {R : Kv} (h : s97 S a0 a1 H R) : Wf S 97 [a0, a1] H R := Wf_sh hR hF ((h97
  S a0 a1 H R).mpr h)
def b99_0 : KCode := (.seq (.reg [(.op (some 15) none (.bin .lss (.t 14) (.t 13)))]) (.seq (.cond (.t 15) .skip (.exit 0)) (.seq (.block 1 (.seq (.reg [(.op (some 16)
  none (.mv (.t 14))), (.op (some 17) none (.iad 1 (.t 12) (.t 14))), (.op (some 18) none (.ld (.t 17))), (.op (some 6) none (.mv (.t 16))), (.op (some 7) none (.mv (.t
  18)))]) (.reg [(.op (some 19) none (.mv (.t 5))), (.op (some 20) none (.mv (.t 7))), (.op (some 21) none (.cvt .u64 (.t 20))), (.op (some 22) none (.mv (.t 6))), (.op
  (some 23) none (.bin .mul (.c (.int .i64 8)) (.t 22))), (.op (some 24) none (.bin .shl (.t 21) (.t 23))), (.op (some 25) none (.bin .or (.t 19) (.t 24))), (.op (some
  5) none (.mv (.t 25)))]))) (.reg [(.op (some 26) none (.bin .add (.t 14) (.c (.int .i64 1)))), (.op (some 14) none (.mv (.t 26)))]))))
def s99_0 (S : Sys) (e : Fe) (H : Heap) (Q : Kx) : Prop := run S (.bin .lss (.c (e 14)) (.c (e 13))) [] H fun t15_8 H => jn (sq (fun e10 H => jn (sq (fun e12 H => run S
  (.bin .add (.c (e12 14)) (.c (.int .i64 1))) [] H fun t26_13 H => Q .normal (upd (upd e12 26 t26_13) 14 t26_13) H) Q) fun Q11 => run S (.iad 1 (.c (e10 12)) (.c (e10
  14))) [] H fun t17_14 H => run S (.ld (.c t17_14)) [] H fun t18_15 H => run S (.cvt .u64 (.c t18_15)) [] H fun t21_16 H => run S (.bin .mul (.c (.int .i64 8)) (.c (e10
  14))) [] H fun t23_17 H => run S (.bin .shl (.c t21_16) (.c t23_17)) [] H fun t24_18 H => run S (.bin .or (.c (e10 5)) (.c t24_18)) [] H fun t25_19 H => Q11 .normal
  (upd (upd (upd (upd (upd (upd (upd (upd (upd (upd (upd (upd (upd e10 16 (e10 14)) 17 t17_14) 18 t18_15) 6 (e10 14)) 7 t18_15) 19 (e10 5)) 20 t18_15) 21 t21_16) 22 (e10
  14)) 23 t23_17) 24 t24_18) 25 t25_19) 5 t25_19) H) Q) fun Q9 => cnd t15_8 (fun Q20 => Q20 .normal (upd e 15 t15_8) H) (fun Q21 => Q21 (.exit 0) (upd e 15 t15_8) H) Q9
theorem h99_0 (S : Sys) (e : Fe) (H : Heap) (Q : Kx) : wpC S b99_0 e H Q = s99_0 S e H Q := by kernel_rfl
theorem l99_0 (S : Sys) {Q : Kx} (I : Nat → Fe → Heap → Prop) (d : Nat) {e0 : Fe} {H : Heap} (h0 : I d e0 H) (hr : ∀ (d : Nat) (e : Fe) (H : Heap), I d e H → s99_0 S e H
  (sq (fun e' H' => ∃ d', d' < d ∧ I d' e' H') Q)) : WL S b99_0 e0 H Q := WL_inv I d h0 fun d e H hi => (h99_0 S e H _).mpr (hr d e H hi)
theorem u99_0 (S : Sys) {Q : Kx} {e : Fe} {H : Heap} (h : s99_0 S e H (sq (fun e' H' => WL S b99_0 e' H' Q) Q)) : WL S b99_0 e H Q := WL_once ((h99_0 S e H _).mpr h)
def s99 (S : Sys) (a0 a1 : Value) (H : Heap) (R : Kv) : Prop := run S (.call 105 [(.c a1)]) [] H fun t10_1 H => run S (.call 102 [(.c a0), (.c t10_1)]) [] H fun t11_2 H
  => run S (.s2b 5 (.c t11_2)) [] H fun t12_3 H => run S (.lenL (.c t12_3)) [] H fun t13_4 H => jn (sq (fun e6 H => R (e6 5) H) (fn [(.t 4)] R)) fun Q5 => jn (blk 0 Q5)
  fun Q7 => WL S b99_0 (upd (upd (upd (upd (upd (upd (upd (upd (upd (Env.get [a0, a1]) 4 (.int .u64 0)) 5 (.int .u64 0)) 8 a0) 9 a1) 10 t10_1) 11 t11_2) 12 t12_3) 13
  t13_4) 14 (.int .i64 0)) H Q7
theorem h99 (S : Sys) (a0 a1 : Value) (H : Heap) (R : Kv) : wpC S k99.body (Env.get [a0, a1]) H (fn [(.t 4)] R) = s99 S a0 a1 H R := by kernel_rfl
theorem w99 {S : Sys} (hR : S.R 99 = none) (hF : S.F 99 = some k99) (a0 a1 : Value) {H : Heap} {R : Kv} (h : s99 S a0 a1 H R) : Wf S 99 [a0, a1] H R := Wf_sh hR hF ((h99
  S a0 a1 H R).mpr h)
def s100 (S : Sys) (a0 a1 : Value) (H : Heap) (R : Kv) : Prop := run S (.call 125 [(.c a0)]) [] H fun t7_1 H => run S (.call 101 [(.c a0)]) [] H fun t9_2 H => gd t9_2
  false (run S (.mv (.c a1)) [] H) H fun t11_3 H => gd t9_2 false (run S (.bin .lss (.c t11_3) (.c (.int .i64 0))) [] H) H fun t12_4 H => run S (.pick (.c t9_2) (.c
  (.bool true)) (.c t12_4)) [] H fun t13_5 H => gd t13_5 false (run S (.mv (.c t7_1)) [] H) H fun t15_6 H => gd t13_5 false (run S (.mv (.c a1)) [] H) H fun t16_7 H =>
  gd t13_5 false (run S (.cvt .u64 (.c t16_7)) [] H) H fun t17_8 H => gd t13_5 false (run S (.bin .gtr (.c t15_6) (.c t17_8)) [] H) H fun t18_9 H => run S (.pick (.c
  t13_5) (.c (.bool true)) (.c t18_9)) [] H fun t19_10 H => jn (sq (fun e12 H => run S (.cvt .i64 (.c (e12 5))) [] H fun t23_13 H => R t23_13 H) (fn [(.t 4)] R)) fun Q11
  => cnd t19_10 (fun Q14 => run S (.call 126 [(.c a0)]) [] H fun t21_16 H => Q14 .ret (upd (upd (upd (upd (upd (upd (upd (upd (upd (upd (upd (upd (upd (upd (upd (upd
  (upd (upd (upd (Env.get [a0, a1]) 4 (.int .i64 0)) 6 a0) 7 t7_1) 5 t7_1) 8 a0) 9 t9_2) 10 t9_2) 11 t11_3) 12 t12_4) 13 t13_5) 14 t13_5) 15 t15_6) 16 t16_7) 17 t17_8)
  18 t18_9) 19 t19_10) 20 a0) 21 t21_16) 4 (.int .i64 0)) H) (fun Q15 => Q15 .normal (upd (upd (upd (upd (upd (upd (upd (upd (upd (upd (upd (upd (upd (upd (upd (upd
  (Env.get [a0, a1]) 4 (.int .i64 0)) 6 a0) 7 t7_1) 5 t7_1) 8 a0) 9 t9_2) 10 t9_2) 11 t11_3) 12 t12_4) 13 t13_5) 14 t13_5) 15 t15_6) 16 t16_7) 17 t17_8) 18 t18_9) 19
  t19_10) H) Q11
theorem h100 (S : Sys) (a0 a1 : Value) (H : Heap) (R : Kv) : wpC S k100.body (Env.get [a0, a1]) H (fn [(.t 4)] R) = s100 S a0 a1 H R := by kernel_rfl
theorem w100 {S : Sys} (hR : S.R 100 = none) (hF : S.F 100 = some k100) (a0 a1 : Value) {H : Heap} {R : Kv} (h : s100 S a0 a1 H R) : Wf S 100 [a0, a1] H R := Wf_sh hR hF
  ((h100 S a0 a1 H R).mpr h)
def s101 (S : Sys) (a0 : Value) (H : Heap) (R : Kv) : Prop := run S (.eqv .ptr false (.c a0) (.c (.pointer none))) [] H fun t4_1 H => gd t4_1 false (run S (.mv (.c a0))
  [] H) H fun t6_2 H => gd t4_1 false (run S (.nck (.c t6_2)) [] H) H fun t7_3 H => gd t4_1 false (run S (.fad 1 (.c t7_3)) [] H) H fun t8_4 H => gd t4_1 false (run S
  (.ld (.c t8_4)) [] H) H fun t9_5 H => run S (.pick (.c t4_1) (.c (.bool true)) (.c t9_5)) [] H fun t10_6 H => R t10_6 H
theorem h101 (S : Sys) (a0 : Value) (H : Heap) (R : Kv) : wpC S k101.body (Env.get [a0]) H (fn [(.t 2)] R) = s101 S a0 H R := by kernel_rfl
theorem w101 {S : Sys} (hR : S.R 101 = none) (hF : S.F 101 = some k101) (a0 : Value) {H : Heap} {R : Kv} (h : s101 S a0 H R) : Wf S 101 [a0] H R := Wf_sh hR hF ((h101 S
  a0 H R).mpr h)
def s102 (S : Sys) (a0 a1 : Value) (H : Heap) (R : Kv) : Prop := run S (.mx (.c a1) [(.c (.int .i64 0))]) [] H fun t7_1 H => run S (.call 101 [(.c a0)]) [] H fun t9_2 H
  => gd t9_2 false (run S (.mv (.c a0)) [] H) H fun t11_3 H => gd t9_2 false (run S (.nck (.c t11_3)) [] H) H fun t12_4 H => gd t9_2 false (run S (.fad 0 (.c t12_4)) []
  H) H fun t13_5 H => gd t9_2 false (run S (.ld (.c t13_5)) [] H) H fun t14_6 H => gd t9_2 false (run S (.lenS (.c t14_6)) [] H) H fun t15_7 H => gd t9_2 false (run S
  (.mv (.c t7_1)) [] H) H fun t16_8 H => gd t9_2 false (run S (.bin .lss (.c t15_7) (.c t16_8)) [] H) H fun t17_9 H => run S (.pick (.c t9_2) (.c (.bool true)) (.c
  t17_9)) [] H fun t18_10 H => jn (sq (fun e12 H => run S (.nck (.c (e12 0))) [] H fun t22_13 H => run S (.fad 0 (.c t22_13)) [] H fun t23_14 H => run S (.ld (.c
  t23_14)) [] H fun t24_15 H => run S (.slS (.c t24_15) none (some (.c (e12 1)))) [] H fun t26_16 H => run S (.nck (.c (e12 0))) [] H fun t29_17 H => run S (.fad 0 (.c
  t29_17)) [] H fun t30_18 H => run S (.ld (.c t30_18)) [] H fun t31_19 H => run S (.slS (.c t31_19) (some (.c (e12 1))) none) [] H fun t33_20 H => run S (.nck (.c (e12
  0))) [] H fun t34_21 H => run S (.fad 0 (.c t34_21)) [] H fun t35_22 H => run S (.st (.c t35_22) (.c t33_20)) [] H fun _ H => R t26_16 H) (fn [(.t 4)] R)) fun Q11 =>
  cnd t18_10 (fun Q23 => run S (.call 126 [(.c a0)]) [] H fun t20_25 H => Q23 .ret (upd (upd (upd (upd (upd (upd (upd (upd (upd (upd (upd (upd (upd (upd (upd (upd (upd
  (upd (Env.get [a0, a1]) 4 (.string (bs []))) 6 a1) 7 t7_1) 1 t7_1) 8 a0) 9 t9_2) 10 t9_2) 11 t11_3) 12 t12_4) 13 t13_5) 14 t14_6) 15 t15_7) 16 t16_8) 17 t17_9) 18
  t18_10) 19 a0) 20 t20_25) 4 (.string (bs []))) H) (fun Q24 => Q24 .normal (upd (upd (upd (upd (upd (upd (upd (upd (upd (upd (upd (upd (upd (upd (upd (Env.get [a0, a1])
  4 (.string (bs []))) 6 a1) 7 t7_1) 1 t7_1) 8 a0) 9 t9_2) 10 t9_2) 11 t11_3) 12 t12_4) 13 t13_5) 14 t14_6) 15 t15_7) 16 t16_8) 17 t17_9) 18 t18_10) H) Q11
theorem h102 (S : Sys) (a0 a1 : Value) (H : Heap) (R : Kv) : wpC S k102.body (Env.get [a0, a1]) H (fn [(.t 4)] R) = s102 S a0 a1 H R := by kernel_rfl
theorem w102 {S : Sys} (hR : S.R 102 = none) (hF : S.F 102 = some k102) (a0 a1 : Value) {H : Heap} {R : Kv} (h : s102 S a0 a1 H R) : Wf S 102 [a0, a1] H R := Wf_sh hR hF
  ((h102 S a0 a1 H R).mpr h)
def s105 (S : Sys) (a0 : Value) (H : Heap) (R : Kv) : Prop := run S (.mx (.c a0) [(.c (.int .i64 0))]) [] H fun t4_1 H => run S (.mn (.c t4_1) [(.c (.int .i64 8))]) [] H
  fun t5_2 H => R t5_2 H
theorem h105 (S : Sys) (a0 : Value) (H : Heap) (R : Kv) : wpC S k105.body (Env.get [a0]) H (fn [(.t 2)] R) = s105 S a0 H R := by kernel_rfl
theorem w105 {S : Sys} (hR : S.R 105 = none) (hF : S.F 105 = some k105) (a0 : Value) {H : Heap} {R : Kv} (h : s105 S a0 H R) : Wf S 105 [a0] H R := Wf_sh hR hF ((h105 S
  a0 H R).mpr h)
def s106 (S : Sys) (a0 a1 : Value) (H : Heap) (R : Kv) : Prop := run S (.call 100 [(.c a0), (.c a1)]) [] H fun t8_1 H => run S (.call 102 [(.c a0), (.c t8_1)]) [] H fun
  t9_2 H => R t9_2 H
theorem h106 (S : Sys) (a0 a1 : Value) (H : Heap) (R : Kv) : wpC S k106.body (Env.get [a0, a1]) H (fn [(.t 4)] R) = s106 S a0 a1 H R := by kernel_rfl
theorem w106 {S : Sys} (hR : S.R 106 = none) (hF : S.F 106 = some k106) (a0 a1 : Value) {H : Heap} {R : Kv} (h : s106 S a0 a1 H R) : Wf S 106 [a0, a1] H R := Wf_sh hR hF
  ((h106 S a0 a1 H R).mpr h)
def b125_0 : KCode := (.seq (.reg [(.op (some 8) none (.bin .lss (.t 7) (.c (.int .i64 10))))]) (.seq (.cond (.t 8) .skip (.exit 0)) (.seq (.block 1 (.seq (.reg [(.op
  (some 9) none (.mv (.t 7))), (.op (some 4) none (.mv (.t 9)))]) (.seq (.reg [(.op (some 10) none (.mv (.t 0))), (.op (some 11) none (.call 102 [(.t 10), (.c (.int .i64
  1))])), (.op (some 5) none (.mv (.t 11)))]) (.seq (.seq (.reg [(.op (some 12) none (.mv (.t 5))), (.op (some 13) none (.bin .eql (.t 12) (.c (.string (bs [])))))])
  (.cond (.t 13) (.seq (.reg [(.op (some 2) none (.mv (.c (.int .u64 0))))]) .ret) .skip)) (.seq (.reg [(.op (some 14) none (.mv (.t 5))), (.op (some 15) none (.idS (.t
  14) (.c (.int .i64 0)))), (.op (some 16) none (.cvt .u64 (.t 15))), (.op (some 6) none (.mv (.t 16)))]) (.seq (.seq (.reg [(.op (some 17) none (.mv (.t 4))), (.op
  (some 18) none (.bin .eql (.t 17) (.c (.int .i64 9)))), (.op (some 19) none (.mv (.t 18))), (.op (some 20) (some (19, true)) (.mv (.t 6))), (.op (some 21) (some (19,
  true)) (.bin .gtr (.t 20) (.c (.int .u64 1)))), (.op (some 22) none (.pick (.t 19) (.t 21) (.c (.bool false)))), (.op (some 23) none (.mv (.t 22))), (.op (some 24)
  (some (23, false)) (.mv (.t 4))), (.op (some 25) (some (23, false)) (.bin .gtr (.t 24) (.c (.int .i64 0)))), (.op (some 26) (some (23, false)) (.mv (.t 25))), (.op
  (some 27) (some (26, true)) (.mv (.t 6))), (.op (some 28) (some (26, true)) (.bin .eql (.t 27) (.c (.int .u64 0)))), (.op (some 29) (some (23, false)) (.pick (.t 26)
  (.t 28) (.c (.bool false)))), (.op (some 30) none (.pick (.t 23) (.c (.bool true)) (.t 29)))]) (.cond (.t 30) (.exit 0) .skip)) (.seq (.reg [(.op (some 31) none (.mv
  (.t 3))), (.op (some 32) none (.mv (.t 6))), (.op (some 33) none (.bin .and (.t 32) (.c (.int .u64 127)))), (.op (some 34) none (.mv (.t 4))), (.op (some 35) none
  (.bin .mul (.c (.int .i64 7)) (.t 34))), (.op (some 36) none (.bin .shl (.t 33) (.t 35))), (.op (some 37) none (.bin .or (.t 31) (.t 36))), (.op (some 3) none (.mv (.t
  37)))]) (.seq (.reg [(.op (some 38) none (.mv (.t 6))), (.op (some 39) none (.bin .lss (.t 38) (.c (.int .u64 128))))]) (.cond (.t 39) (.seq (.reg [(.op (some 40) none
  (.mv (.t 3))), (.op (some 2) none (.mv (.t 40)))]) .ret) .skip))))))))) (.reg [(.op (some 41) none (.bin .add (.t 7) (.c (.int .i64 1)))), (.op (some 7) none (.mv (.t
  41)))]))))
def s125_0 (S : Sys) (e : Fe) (H : Heap) (Q : Kx) : Prop := run S (.bin .lss (.c (e 7)) (.c (.int .i64 10))) [] H fun t8_5 H => jn (sq (fun e7 H => jn (sq (fun e9 H =>
  run S (.bin .add (.c (e9 7)) (.c (.int .i64 1))) [] H fun t41_10 H => Q .normal (upd (upd e9 41 t41_10) 7 t41_10) H) Q) fun Q8 => run S (.call 102 [(.c (e7 0)), (.c
  (.int .i64 1))]) [] H fun t11_11 H => run S (.bin .eql (.c t11_11) (.c (.string (bs [])))) [] H fun t13_12 H => jn (blk 1 Q8) fun Q13 => jn (sq (fun e15 H => run S
  (.idS (.c (e15 5)) (.c (.int .i64 0))) [] H fun t15_16 H => run S (.cvt .u64 (.c t15_16)) [] H fun t16_17 H => run S (.bin .eql (.c (e15 4)) (.c (.int .i64 9))) [] H
  fun t18_18 H => gd t18_18 true (run S (.mv (.c t16_17)) [] H) H fun t20_19 H => gd t18_18 true (run S (.bin .gtr (.c t20_19) (.c (.int .u64 1))) [] H) H fun t21_20 H
  => run S (.pick (.c t18_18) (.c t21_20) (.c (.bool false))) [] H fun t22_21 H => gd t22_21 false (run S (.mv (.c (e15 4))) [] H) H fun t24_22 H => gd t22_21 false (run
  S (.bin .gtr (.c t24_22) (.c (.int .i64 0))) [] H) H fun t25_23 H => gd t22_21 false (run S (.mv (.c t25_23)) [] H) H fun t26_24 H => gd t26_24 true (run S (.mv (.c
  t16_17)) [] H) H fun t27_25 H => gd t26_24 true (run S (.bin .eql (.c t27_25) (.c (.int .u64 0))) [] H) H fun t28_26 H => gd t22_21 false (run S (.pick (.c t26_24) (.c
  t28_26) (.c (.bool false))) [] H) H fun t29_27 H => run S (.pick (.c t22_21) (.c (.bool true)) (.c t29_27)) [] H fun t30_28 H => jn (sq (fun e30 H => run S (.bin .and
  (.c (e30 6)) (.c (.int .u64 127))) [] H fun t33_31 H => run S (.bin .mul (.c (.int .i64 7)) (.c (e30 4))) [] H fun t35_32 H => run S (.bin .shl (.c t33_31) (.c
  t35_32)) [] H fun t36_33 H => run S (.bin .or (.c (e30 3)) (.c t36_33)) [] H fun t37_34 H => run S (.bin .lss (.c (e30 6)) (.c (.int .u64 128))) [] H fun t39_35 H =>
  cnd t39_35 (fun Q36 => Q36 .ret (upd (upd (upd (upd (upd (upd (upd (upd (upd (upd (upd (upd e30 31 (e30 3)) 32 (e30 6)) 33 t33_31) 34 (e30 4)) 35 t35_32) 36 t36_33) 37
  t37_34) 3 t37_34) 38 (e30 6)) 39 t39_35) 40 t37_34) 2 t37_34) H) (fun Q37 => Q37 .normal (upd (upd (upd (upd (upd (upd (upd (upd (upd (upd e30 31 (e30 3)) 32 (e30 6))
  33 t33_31) 34 (e30 4)) 35 t35_32) 36 t36_33) 37 t37_34) 3 t37_34) 38 (e30 6)) 39 t39_35) H) Q13) Q13) fun Q29 => cnd t30_28 (fun Q38 => Q38 (.exit 0) (upd (upd (upd
  (upd (upd (upd (upd (upd (upd (upd (upd (upd (upd (upd (upd (upd (upd (upd e15 14 (e15 5)) 15 t15_16) 16 t16_17) 6 t16_17) 17 (e15 4)) 18 t18_18) 19 t18_18) 20 t20_19)
  21 t21_20) 22 t22_21) 23 t22_21) 24 t24_22) 25 t25_23) 26 t26_24) 27 t27_25) 28 t28_26) 29 t29_27) 30 t30_28) H) (fun Q39 => Q39 .normal (upd (upd (upd (upd (upd (upd
  (upd (upd (upd (upd (upd (upd (upd (upd (upd (upd (upd (upd e15 14 (e15 5)) 15 t15_16) 16 t16_17) 6 t16_17) 17 (e15 4)) 18 t18_18) 19 t18_18) 20 t20_19) 21 t21_20) 22
  t22_21) 23 t22_21) 24 t24_22) 25 t25_23) 26 t26_24) 27 t27_25) 28 t28_26) 29 t29_27) 30 t30_28) H) Q29) Q13) fun Q14 => cnd t13_12 (fun Q40 => Q40 .ret (upd (upd (upd
  (upd (upd (upd (upd (upd e7 9 (e7 7)) 4 (e7 7)) 10 (e7 0)) 11 t11_11) 5 t11_11) 12 t11_11) 13 t13_12) 2 (.int .u64 0)) H) (fun Q41 => Q41 .normal (upd (upd (upd (upd
  (upd (upd (upd e7 9 (e7 7)) 4 (e7 7)) 10 (e7 0)) 11 t11_11) 5 t11_11) 12 t11_11) 13 t13_12) H) Q14) Q) fun Q6 => cnd t8_5 (fun Q42 => Q42 .normal (upd e 8 t8_5) H)
  (fun Q43 => Q43 (.exit 0) (upd e 8 t8_5) H) Q6
theorem h125_0 (S : Sys) (e : Fe) (H : Heap) (Q : Kx) : wpC S b125_0 e H Q = s125_0 S e H Q := by kernel_rfl
theorem l125_0 (S : Sys) {Q : Kx} (I : Nat → Fe → Heap → Prop) (d : Nat) {e0 : Fe} {H : Heap} (h0 : I d e0 H) (hr : ∀ (d : Nat) (e : Fe) (H : Heap), I d e H → s125_0 S e
  H (sq (fun e' H' => ∃ d', d' < d ∧ I d' e' H') Q)) : WL S b125_0 e0 H Q := WL_inv I d h0 fun d e H hi => (h125_0 S e H _).mpr (hr d e H hi)
theorem u125_0 (S : Sys) {Q : Kx} {e : Fe} {H : Heap} (h : s125_0 S e H (sq (fun e' H' => WL S b125_0 e' H' Q) Q)) : WL S b125_0 e H Q := WL_once ((h125_0 S e H _).mpr h)
def s125 (S : Sys) (a0 : Value) (H : Heap) (R : Kv) : Prop := jn (sq (fun e2 H => run S (.call 126 [(.c (e2 0))]) [] H fun t43_3 H => R (.int .u64 0) H) (fn [(.t 2)] R))
  fun Q1 => jn (blk 0 Q1) fun Q4 => WL S b125_0 (upd (upd (upd (Env.get [a0]) 2 (.int .u64 0)) 3 (.int .u64 0)) 7 (.int .i64 0)) H Q4
theorem h125 (S : Sys) (a0 : Value) (H : Heap) (R : Kv) : wpC S k125.body (Env.get [a0]) H (fn [(.t 2)] R) = s125 S a0 H R := by kernel_rfl
theorem w125 {S : Sys} (hR : S.R 125 = none) (hF : S.F 125 = some k125) (a0 : Value) {H : Heap} {R : Kv} (h : s125 S a0 H R) : Wf S 125 [a0] H R := Wf_sh hR hF ((h125 S
  a0 H R).mpr h)
def s126 (S : Sys) (a0 : Value) (H : Heap) (R : Kv) : Prop := run S (.eqv .ptr true (.c a0) (.c (.pointer none))) [] H fun t3_1 H => cnd t3_1 (fun Q2 => run S (.nck (.c
  a0)) [] H fun t6_4 H => run S (.fad 0 (.c t6_4)) [] H fun t7_5 H => run S (.st (.c t7_5) (.c (.string (bs [])))) [] H fun _ H => run S (.nck (.c a0)) [] H fun t8_6 H
  => run S (.fad 1 (.c t8_6)) [] H fun t9_7 H => run S (.st (.c t9_7) (.c (.bool true))) [] H fun _ H => Q2 .normal (upd (upd (upd (upd (upd (upd (upd (upd (Env.get
  [a0]) 2 a0) 3 t3_1) 4 a0) 5 a0) 6 t6_4) 7 t7_5) 8 t8_6) 9 t9_7) H) (fun Q3 => Q3 .normal (upd (upd (Env.get [a0]) 2 a0) 3 t3_1) H) (fn [] R)
theorem h126 (S : Sys) (a0 : Value) (H : Heap) (R : Kv) : wpC S k126.body (Env.get [a0]) H (fn [] R) = s126 S a0 H R := by kernel_rfl
theorem w126 {S : Sys} (hR : S.R 126 = none) (hF : S.F 126 = some k126) (a0 : Value) {H : Heap} {R : Kv} (h : s126 S a0 H R) : Wf S 126 [a0] H R := Wf_sh hR hF ((h126 S
  a0 H R).mpr h)
end Go.Proofs.Ytlboioplemlneaa.K
