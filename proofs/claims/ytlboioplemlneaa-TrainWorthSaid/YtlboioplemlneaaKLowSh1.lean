/- The functions as nested words with named values, each held against its code by the kernel. Printed by a program of this work (sh.py). -/
import Derived.Test.YtlboioplemlneaaKLowCode
set_option maxRecDepth 100000
set_option linter.unusedVariables false
namespace Go.Proofs.Ytlboioplemlneaa.K
open Go Go.Proofs
def b22_0 : KCode := (.seq (.seq (.reg [(.op (some 9) none (.mv (.t 5))), (.op (some 10) none (.mv (.t 0))), (.op (some 11) none (.lenL (.t 10))), (.op (some 12) none
  (.bin .lss (.t 9) (.t 11)))]) (.cond (.t 12) .skip (.exit 0))) (.seq (.block 1 (.seq (.reg [(.op (some 15) none (.mv (.t 0))), (.op (some 16) none (.mv (.t 5))), (.op
  (some 17) none (.iad 1 (.t 15) (.t 16))), (.op (some 18) none (.ld (.t 17))), (.op (some 19) none (.bin .gtr (.t 18) (.c (.int .i64 0))))]) (.cond (.t 19) (.seq (.reg
  [(.op (some 20) none (.mv (.t 3))), (.op (some 21) none (.mv (.t 0))), (.op (some 22) none (.mv (.t 5))), (.op (some 23) none (.iad 1 (.t 21) (.t 22))), (.op (some 24)
  none (.ld (.t 23))), (.op (some 25) none (.bin .sub (.c (.int .i64 11)) (.t 24))), (.op (some 26) none (.call 60 [(.t 25)])), (.op (some 27) none (.bin .add (.t 20)
  (.t 26))), (.op (some 3) none (.mv (.t 27)))]) (.reg [(.op (some 28) none (.mv (.t 4))), (.op (some 29) none (.bin .add (.t 28) (.c (.int .i64 1)))), (.op (some 4)
  none (.mv (.t 29)))])) .skip))) (.reg [(.op (some 13) none (.mv (.t 5))), (.op (some 14) none (.bin .add (.t 13) (.c (.int .i64 1)))), (.op (some 5) none (.mv (.t
  14)))])))
def s22_0 (S : Sys) (e : Fe) (H : Heap) (Q : Kx) : Prop := run S (.lenL (.c (e 0))) [] H fun t11_18 H => run S (.bin .lss (.c (e 5)) (.c t11_18)) [] H fun t12_19 H => jn
  (sq (fun e21 H => jn (sq (fun e23 H => run S (.bin .add (.c (e23 5)) (.c (.int .i64 1))) [] H fun t14_24 H => Q .normal (upd (upd (upd e23 13 (e23 5)) 14 t14_24) 5
  t14_24) H) Q) fun Q22 => run S (.iad 1 (.c (e21 0)) (.c (e21 5))) [] H fun t17_25 H => run S (.ld (.c t17_25)) [] H fun t18_26 H => run S (.bin .gtr (.c t18_26) (.c
  (.int .i64 0))) [] H fun t19_27 H => jn (blk 1 Q22) fun Q28 => cnd t19_27 (fun Q29 => run S (.iad 1 (.c (e21 0)) (.c (e21 5))) [] H fun t23_31 H => run S (.ld (.c
  t23_31)) [] H fun t24_32 H => run S (.bin .sub (.c (.int .i64 11)) (.c t24_32)) [] H fun t25_33 H => run S (.call 60 [(.c t25_33)]) [] H fun t26_34 H => run S (.bin
  .add (.c (e21 3)) (.c t26_34)) [] H fun t27_35 H => run S (.bin .add (.c (e21 4)) (.c (.int .i64 1))) [] H fun t29_36 H => Q29 .normal (upd (upd (upd (upd (upd (upd
  (upd (upd (upd (upd (upd (upd (upd (upd (upd (upd (upd e21 15 (e21 0)) 16 (e21 5)) 17 t17_25) 18 t18_26) 19 t19_27) 20 (e21 3)) 21 (e21 0)) 22 (e21 5)) 23 t23_31) 24
  t24_32) 25 t25_33) 26 t26_34) 27 t27_35) 3 t27_35) 28 (e21 4)) 29 t29_36) 4 t29_36) H) (fun Q30 => Q30 .normal (upd (upd (upd (upd (upd e21 15 (e21 0)) 16 (e21 5)) 17
  t17_25) 18 t18_26) 19 t19_27) H) Q28) Q) fun Q20 => cnd t12_19 (fun Q37 => Q37 .normal (upd (upd (upd (upd e 9 (e 5)) 10 (e 0)) 11 t11_18) 12 t12_19) H) (fun Q38 =>
  Q38 (.exit 0) (upd (upd (upd (upd e 9 (e 5)) 10 (e 0)) 11 t11_18) 12 t12_19) H) Q20
theorem h22_0 (S : Sys) (e : Fe) (H : Heap) (Q : Kx) : wpC S b22_0 e H Q = s22_0 S e H Q := by kernel_rfl
theorem l22_0 (S : Sys) {Q : Kx} (I : Nat → Fe → Heap → Prop) (d : Nat) {e0 : Fe} {H : Heap} (h0 : I d e0 H) (hr : ∀ (d : Nat) (e : Fe) (H : Heap), I d e H → s22_0 S e H
  (sq (fun e' H' => ∃ d', d' < d ∧ I d' e' H') Q)) : WL S b22_0 e0 H Q := WL_inv I d h0 fun d e H hi => (h22_0 S e H _).mpr (hr d e H hi)
theorem u22_0 (S : Sys) {Q : Kx} {e : Fe} {H : Heap} (h : s22_0 S e H (sq (fun e' H' => WL S b22_0 e' H' Q) Q)) : WL S b22_0 e H Q := WL_once ((h22_0 S e H _).mpr h)
def s22 (S : Sys) (a0 : Value) (H : Heap) (R : Kv) : Prop := run S (.call 59 [(.c a0)]) [] H fun t7_1 H => run S (.un .not (.c t7_1)) [] H fun t8_2 H => jn (sq (fun e4 H
  => jn (sq (fun e6 H => run S (.bin .eql (.c (e6 3)) (.c (.int .i64 2048))) [] H fun t31_7 H => gd t31_7 false (run S (.mv (.c (e6 4))) [] H) H fun t33_8 H => gd t31_7
  false (run S (.bin .eql (.c t33_8) (.c (.int .i64 1))) [] H) H fun t34_9 H => gd t31_7 false (run S (.mv (.c t34_9)) [] H) H fun t35_10 H => gd t35_10 true (run S (.mv
  (.c (e6 3))) [] H) H fun t36_11 H => gd t35_10 true (run S (.bin .eql (.c t36_11) (.c (.int .i64 1024))) [] H) H fun t37_12 H => gd t31_7 false (run S (.pick (.c
  t35_10) (.c t37_12) (.c (.bool false))) [] H) H fun t38_13 H => run S (.pick (.c t31_7) (.c (.bool true)) (.c t38_13)) [] H fun t39_14 H => R t39_14 H) (fn [(.t 2)]
  R)) fun Q5 => jn (blk 0 Q5) fun Q15 => WL S b22_0 (upd (upd (upd e4 3 (.int .i64 0)) 4 (.int .i64 0)) 5 (.int .i64 0)) H Q15) (fn [(.t 2)] R)) fun Q3 => cnd t8_2 (fun
  Q16 => Q16 .ret (upd (upd (upd (upd (upd (Env.get [a0]) 2 (.bool false)) 6 a0) 7 t7_1) 8 t8_2) 2 (.bool false)) H) (fun Q17 => Q17 .normal (upd (upd (upd (upd (Env.get
  [a0]) 2 (.bool false)) 6 a0) 7 t7_1) 8 t8_2) H) Q3
theorem h22 (S : Sys) (a0 : Value) (H : Heap) (R : Kv) : wpC S k22.body (Env.get [a0]) H (fn [(.t 2)] R) = s22 S a0 H R := by kernel_rfl
theorem w22 {S : Sys} (hR : S.R 22 = none) (hF : S.F 22 = some k22) (a0 : Value) {H : Heap} {R : Kv} (h : s22 S a0 H R) : Wf S 22 [a0] H R := Wf_sh hR hF ((h22 S a0 H
  R).mpr h)
def s49 (S : Sys) (a0 : Value) (H : Heap) (R : Kv) : Prop := run S (.build [(.string (bs [])), (.bool false)] [(0, (1, (.c a0)))]) [] H fun t4_1 H => run S (.box 134 (.c
  t4_1)) [] H fun t5_2 H => R t5_2 H
theorem h49 (S : Sys) (a0 : Value) (H : Heap) (R : Kv) : wpC S k49.body (Env.get [a0]) H (fn [(.t 2)] R) = s49 S a0 H R := by kernel_rfl
theorem w49 {S : Sys} (hR : S.R 49 = none) (hF : S.F 49 = some k49) (a0 : Value) {H : Heap} {R : Kv} (h : s49 S a0 H R) : Wf S 49 [a0] H R := Wf_sh hR hF ((h49 S a0 H
  R).mpr h)
def s57 (S : Sys) (a0 : Value) (H : Heap) (R : Kv) : Prop := run S (.call 101 [(.c a0)]) [] H fun t4_1 H => jn (sq (fun e3 H => run S (.nck (.c (e3 0))) [] H fun t7_4 H
  => run S (.fad 0 (.c t7_4)) [] H fun t8_5 H => run S (.ld (.c t8_5)) [] H fun t9_6 H => run S (.lenS (.c t9_6)) [] H fun t10_7 H => run S (.call 102 [(.c (e3 0)), (.c
  t10_7)]) [] H fun t11_8 H => R t11_8 H) (fn [(.t 2)] R)) fun Q2 => cnd t4_1 (fun Q9 => Q9 .ret (upd (upd (upd (upd (Env.get [a0]) 2 (.string (bs []))) 3 a0) 4 t4_1) 2
  (.string (bs []))) H) (fun Q10 => Q10 .normal (upd (upd (upd (Env.get [a0]) 2 (.string (bs []))) 3 a0) 4 t4_1) H) Q2
theorem h57 (S : Sys) (a0 : Value) (H : Heap) (R : Kv) : wpC S k57.body (Env.get [a0]) H (fn [(.t 2)] R) = s57 S a0 H R := by kernel_rfl
theorem w57 {S : Sys} (hR : S.R 57 = none) (hF : S.F 57 = some k57) (a0 : Value) {H : Heap} {R : Kv} (h : s57 S a0 H R) : Wf S 57 [a0] H R := Wf_sh hR hF ((h57 S a0 H
  R).mpr h)
def b59_0 : KCode := (.seq (.seq (.reg [(.op (some 4) none (.mv (.t 3))), (.op (some 5) none (.mv (.t 0))), (.op (some 6) none (.lenL (.t 5))), (.op (some 7) none (.bin
  .lss (.t 4) (.t 6)))]) (.cond (.t 7) .skip (.exit 0))) (.seq (.block 1 (.seq (.reg [(.op (some 10) none (.mv (.t 0))), (.op (some 11) none (.mv (.t 3))), (.op (some
  12) none (.iad 1 (.t 10) (.t 11))), (.op (some 13) none (.ld (.t 12))), (.op (some 14) none (.bin .lss (.t 13) (.c (.int .i64 0)))), (.op (some 15) none (.mv (.t
  14))), (.op (some 16) (some (15, false)) (.mv (.t 0))), (.op (some 17) (some (15, false)) (.mv (.t 3))), (.op (some 18) (some (15, false)) (.iad 1 (.t 16) (.t 17))),
  (.op (some 19) (some (15, false)) (.ld (.t 18))), (.op (some 20) (some (15, false)) (.bin .gtr (.t 19) (.c (.int .i64 11)))), (.op (some 21) none (.pick (.t 15) (.c
  (.bool true)) (.t 20)))]) (.cond (.t 21) (.seq (.reg [(.op (some 2) none (.mv (.c (.bool false))))]) .ret) .skip))) (.reg [(.op (some 8) none (.mv (.t 3))), (.op (some
  9) none (.bin .add (.t 8) (.c (.int .i64 1)))), (.op (some 3) none (.mv (.t 9)))])))
def s59_0 (S : Sys) (e : Fe) (H : Heap) (Q : Kx) : Prop := run S (.lenL (.c (e 0))) [] H fun t6_6 H => run S (.bin .lss (.c (e 3)) (.c t6_6)) [] H fun t7_7 H => jn (sq
  (fun e9 H => jn (sq (fun e11 H => run S (.bin .add (.c (e11 3)) (.c (.int .i64 1))) [] H fun t9_12 H => Q .normal (upd (upd (upd e11 8 (e11 3)) 9 t9_12) 3 t9_12) H) Q)
  fun Q10 => run S (.iad 1 (.c (e9 0)) (.c (e9 3))) [] H fun t12_13 H => run S (.ld (.c t12_13)) [] H fun t13_14 H => run S (.bin .lss (.c t13_14) (.c (.int .i64 0))) []
  H fun t14_15 H => gd t14_15 false (run S (.mv (.c (e9 0))) [] H) H fun t16_16 H => gd t14_15 false (run S (.mv (.c (e9 3))) [] H) H fun t17_17 H => gd t14_15 false
  (run S (.iad 1 (.c t16_16) (.c t17_17)) [] H) H fun t18_18 H => gd t14_15 false (run S (.ld (.c t18_18)) [] H) H fun t19_19 H => gd t14_15 false (run S (.bin .gtr (.c
  t19_19) (.c (.int .i64 11))) [] H) H fun t20_20 H => run S (.pick (.c t14_15) (.c (.bool true)) (.c t20_20)) [] H fun t21_21 H => jn (blk 1 Q10) fun Q22 => cnd t21_21
  (fun Q23 => Q23 .ret (upd (upd (upd (upd (upd (upd (upd (upd (upd (upd (upd (upd (upd e9 10 (e9 0)) 11 (e9 3)) 12 t12_13) 13 t13_14) 14 t14_15) 15 t14_15) 16 t16_16)
  17 t17_17) 18 t18_18) 19 t19_19) 20 t20_20) 21 t21_21) 2 (.bool false)) H) (fun Q24 => Q24 .normal (upd (upd (upd (upd (upd (upd (upd (upd (upd (upd (upd (upd e9 10
  (e9 0)) 11 (e9 3)) 12 t12_13) 13 t13_14) 14 t14_15) 15 t14_15) 16 t16_16) 17 t17_17) 18 t18_18) 19 t19_19) 20 t20_20) 21 t21_21) H) Q22) Q) fun Q8 => cnd t7_7 (fun Q25
  => Q25 .normal (upd (upd (upd (upd e 4 (e 3)) 5 (e 0)) 6 t6_6) 7 t7_7) H) (fun Q26 => Q26 (.exit 0) (upd (upd (upd (upd e 4 (e 3)) 5 (e 0)) 6 t6_6) 7 t7_7) H) Q8
theorem h59_0 (S : Sys) (e : Fe) (H : Heap) (Q : Kx) : wpC S b59_0 e H Q = s59_0 S e H Q := by kernel_rfl
theorem l59_0 (S : Sys) {Q : Kx} (I : Nat → Fe → Heap → Prop) (d : Nat) {e0 : Fe} {H : Heap} (h0 : I d e0 H) (hr : ∀ (d : Nat) (e : Fe) (H : Heap), I d e H → s59_0 S e H
  (sq (fun e' H' => ∃ d', d' < d ∧ I d' e' H') Q)) : WL S b59_0 e0 H Q := WL_inv I d h0 fun d e H hi => (h59_0 S e H _).mpr (hr d e H hi)
theorem u59_0 (S : Sys) {Q : Kx} {e : Fe} {H : Heap} (h : s59_0 S e H (sq (fun e' H' => WL S b59_0 e' H' Q) Q)) : WL S b59_0 e H Q := WL_once ((h59_0 S e H _).mpr h)
def s59 (S : Sys) (a0 : Value) (H : Heap) (R : Kv) : Prop := jn (sq (fun e2 H => run S (.lenL (.c (e2 0))) [] H fun t23_3 H => run S (.bin .leq (.c t23_3) (.c (.int .i64
  256))) [] H fun t24_4 H => R t24_4 H) (fn [(.t 2)] R)) fun Q1 => jn (blk 0 Q1) fun Q5 => WL S b59_0 (upd (upd (Env.get [a0]) 2 (.bool false)) 3 (.int .i64 0)) H Q5
theorem h59 (S : Sys) (a0 : Value) (H : Heap) (R : Kv) : wpC S k59.body (Env.get [a0]) H (fn [(.t 2)] R) = s59 S a0 H R := by kernel_rfl
theorem w59 {S : Sys} (hR : S.R 59 = none) (hF : S.F 59 = some k59) (a0 : Value) {H : Heap} {R : Kv} (h : s59 S a0 H R) : Wf S 59 [a0] H R := Wf_sh hR hF ((h59 S a0 H
  R).mpr h)
def b60_0 : KCode := (.seq (.seq (.reg [(.op (some 5) none (.mv (.t 4))), (.op (some 6) none (.mv (.t 0))), (.op (some 7) none (.bin .lss (.t 5) (.t 6)))]) (.cond (.t 7)
  .skip (.exit 0))) (.seq (.block 1 (.reg [(.op (some 10) none (.mv (.t 3))), (.op (some 11) none (.bin .mul (.t 10) (.c (.int .i64 2)))), (.op (some 3) none (.mv (.t
  11)))])) (.reg [(.op (some 8) none (.mv (.t 4))), (.op (some 9) none (.bin .add (.t 8) (.c (.int .i64 1)))), (.op (some 4) none (.mv (.t 9)))])))
def s60_0 (S : Sys) (e : Fe) (H : Heap) (Q : Kx) : Prop := run S (.bin .lss (.c (e 4)) (.c (e 0))) [] H fun t7_4 H => jn (sq (fun e6 H => jn (sq (fun e8 H => run S (.bin
  .add (.c (e8 4)) (.c (.int .i64 1))) [] H fun t9_9 H => Q .normal (upd (upd (upd e8 8 (e8 4)) 9 t9_9) 4 t9_9) H) Q) fun Q7 => run S (.bin .mul (.c (e6 3)) (.c (.int
  .i64 2))) [] H fun t11_10 H => Q7 .normal (upd (upd (upd e6 10 (e6 3)) 11 t11_10) 3 t11_10) H) Q) fun Q5 => cnd t7_4 (fun Q11 => Q11 .normal (upd (upd (upd e 5 (e 4))
  6 (e 0)) 7 t7_4) H) (fun Q12 => Q12 (.exit 0) (upd (upd (upd e 5 (e 4)) 6 (e 0)) 7 t7_4) H) Q5
theorem h60_0 (S : Sys) (e : Fe) (H : Heap) (Q : Kx) : wpC S b60_0 e H Q = s60_0 S e H Q := by kernel_rfl
theorem l60_0 (S : Sys) {Q : Kx} (I : Nat → Fe → Heap → Prop) (d : Nat) {e0 : Fe} {H : Heap} (h0 : I d e0 H) (hr : ∀ (d : Nat) (e : Fe) (H : Heap), I d e H → s60_0 S e H
  (sq (fun e' H' => ∃ d', d' < d ∧ I d' e' H') Q)) : WL S b60_0 e0 H Q := WL_inv I d h0 fun d e H hi => (h60_0 S e H _).mpr (hr d e H hi)
theorem u60_0 (S : Sys) {Q : Kx} {e : Fe} {H : Heap} (h : s60_0 S e H (sq (fun e' H' => WL S b60_0 e' H' Q) Q)) : WL S b60_0 e H Q := WL_once ((h60_0 S e H _).mpr h)
def s60 (S : Sys) (a0 : Value) (H : Heap) (R : Kv) : Prop := jn (sq (fun e2 H => R (e2 3) H) (fn [(.t 2)] R)) fun Q1 => jn (blk 0 Q1) fun Q3 => WL S b60_0 (upd (upd (upd
  (Env.get [a0]) 2 (.int .i64 0)) 3 (.int .i64 1)) 4 (.int .i64 0)) H Q3
theorem h60 (S : Sys) (a0 : Value) (H : Heap) (R : Kv) : wpC S k60.body (Env.get [a0]) H (fn [(.t 2)] R) = s60 S a0 H R := by kernel_rfl
theorem w60 {S : Sys} (hR : S.R 60 = none) (hF : S.F 60 = some k60) (a0 : Value) {H : Heap} {R : Kv} (h : s60 S a0 H R) : Wf S 60 [a0] H R := Wf_sh hR hF ((h60 S a0 H
  R).mpr h)
def b61_0 : KCode := (.seq (.reg [(.op (some 14) none (.bin .lss (.t 13) (.t 12)))]) (.seq (.cond (.t 14) .skip (.exit 0)) (.seq (.block 1 (.seq (.reg [(.op (some 15)
  none (.iad 1 (.t 11) (.t 13))), (.op (some 16) none (.ld (.t 15))), (.op (some 7) none (.mv (.t 16)))]) (.seq (.reg [(.op (some 17) none (.mv (.t 7))), (.op (some 18)
  none (.bin .gtr (.t 17) (.c (.int .i64 0))))]) (.cond (.t 18) (.seq (.reg [(.op (some 19) none (.mv (.t 3))), (.op (some 20) none (.mv (.t 7))), (.op (some 21) none
  (.bin .sub (.c (.int .i64 11)) (.t 20))), (.op (some 22) none (.bin .shl (.c (.int .i64 1)) (.t 21))), (.op (some 23) none (.bin .sub (.t 19) (.t 22))), (.op (some 3)
  none (.mv (.t 23)))]) (.seq (.reg [(.op (some 24) none (.mv (.t 4))), (.op (some 25) none (.bin .add (.t 24) (.c (.int .i64 1)))), (.op (some 4) none (.mv (.t 25)))])
  (.reg [(.op (some 26) none (.mv (.t 7))), (.op (some 27) none (.bin .eql (.t 26) (.c (.int .i64 1)))), (.op (some 5) none (.mv (.t 27)))]))) .skip)))) (.reg [(.op
  (some 28) none (.bin .add (.t 13) (.c (.int .i64 1)))), (.op (some 13) none (.mv (.t 28)))]))))
def s61_0 (S : Sys) (e : Fe) (H : Heap) (Q : Kx) : Prop := run S (.bin .lss (.c (e 13)) (.c (e 12))) [] H fun t14_18 H => jn (sq (fun e20 H => jn (sq (fun e22 H => run S
  (.bin .add (.c (e22 13)) (.c (.int .i64 1))) [] H fun t28_23 H => Q .normal (upd (upd e22 28 t28_23) 13 t28_23) H) Q) fun Q21 => run S (.iad 1 (.c (e20 11)) (.c (e20
  13))) [] H fun t15_24 H => run S (.ld (.c t15_24)) [] H fun t16_25 H => run S (.bin .gtr (.c t16_25) (.c (.int .i64 0))) [] H fun t18_26 H => jn (blk 1 Q21) fun Q27 =>
  cnd t18_26 (fun Q28 => run S (.bin .sub (.c (.int .i64 11)) (.c t16_25)) [] H fun t21_30 H => run S (.bin .shl (.c (.int .i64 1)) (.c t21_30)) [] H fun t22_31 H => run
  S (.bin .sub (.c (e20 3)) (.c t22_31)) [] H fun t23_32 H => run S (.bin .add (.c (e20 4)) (.c (.int .i64 1))) [] H fun t25_33 H => run S (.bin .eql (.c t16_25) (.c
  (.int .i64 1))) [] H fun t27_34 H => Q28 .normal (upd (upd (upd (upd (upd (upd (upd (upd (upd (upd (upd (upd (upd (upd (upd (upd (upd e20 15 t15_24) 16 t16_25) 7
  t16_25) 17 t16_25) 18 t18_26) 19 (e20 3)) 20 t16_25) 21 t21_30) 22 t22_31) 23 t23_32) 3 t23_32) 24 (e20 4)) 25 t25_33) 4 t25_33) 26 t16_25) 27 t27_34) 5 t27_34) H)
  (fun Q29 => Q29 .normal (upd (upd (upd (upd (upd e20 15 t15_24) 16 t16_25) 7 t16_25) 17 t16_25) 18 t18_26) H) Q27) Q) fun Q19 => cnd t14_18 (fun Q35 => Q35 .normal
  (upd e 14 t14_18) H) (fun Q36 => Q36 (.exit 0) (upd e 14 t14_18) H) Q19
theorem h61_0 (S : Sys) (e : Fe) (H : Heap) (Q : Kx) : wpC S b61_0 e H Q = s61_0 S e H Q := by kernel_rfl
theorem l61_0 (S : Sys) {Q : Kx} (I : Nat → Fe → Heap → Prop) (d : Nat) {e0 : Fe} {H : Heap} (h0 : I d e0 H) (hr : ∀ (d : Nat) (e : Fe) (H : Heap), I d e H → s61_0 S e H
  (sq (fun e' H' => ∃ d', d' < d ∧ I d' e' H') Q)) : WL S b61_0 e0 H Q := WL_inv I d h0 fun d e H hi => (h61_0 S e H _).mpr (hr d e H hi)
theorem u61_0 (S : Sys) {Q : Kx} {e : Fe} {H : Heap} (h : s61_0 S e H (sq (fun e' H' => WL S b61_0 e' H' Q) Q)) : WL S b61_0 e H Q := WL_once ((h61_0 S e H _).mpr h)
def s61 (S : Sys) (a0 : Value) (H : Heap) (R : Kv) : Prop := run S (.call 92 [(.c a0)]) [] H fun t9_1 H => run S (.un .not (.c t9_1)) [] H fun t10_2 H => jn (sq (fun e4
  H => run S (.lenL (.c (e4 0))) [] H fun t12_5 H => jn (sq (fun e7 H => run S (.bin .eql (.c (e7 3)) (.c (.int .i64 0))) [] H fun t30_8 H => gd t30_8 false (run S (.mv
  (.c (e7 4))) [] H) H fun t32_9 H => gd t30_8 false (run S (.bin .eql (.c t32_9) (.c (.int .i64 1))) [] H) H fun t33_10 H => gd t30_8 false (run S (.mv (.c t33_10)) []
  H) H fun t34_11 H => gd t34_11 true (run S (.mv (.c (e7 5))) [] H) H fun t35_12 H => gd t30_8 false (run S (.pick (.c t34_11) (.c t35_12) (.c (.bool false))) [] H) H
  fun t36_13 H => run S (.pick (.c t30_8) (.c (.bool true)) (.c t36_13)) [] H fun t37_14 H => R t37_14 H) (fn [(.t 2)] R)) fun Q6 => jn (blk 0 Q6) fun Q15 => WL S b61_0
  (upd (upd (upd (upd (upd (upd e4 3 (.int .i64 2048)) 4 (.int .i64 0)) 5 (.bool false)) 11 (e4 0)) 12 t12_5) 13 (.int .i64 0)) H Q15) (fn [(.t 2)] R)) fun Q3 => cnd
  t10_2 (fun Q16 => Q16 .ret (upd (upd (upd (upd (upd (Env.get [a0]) 2 (.bool false)) 8 a0) 9 t9_1) 10 t10_2) 2 (.bool false)) H) (fun Q17 => Q17 .normal (upd (upd (upd
  (upd (Env.get [a0]) 2 (.bool false)) 8 a0) 9 t9_1) 10 t10_2) H) Q3
theorem h61 (S : Sys) (a0 : Value) (H : Heap) (R : Kv) : wpC S k61.body (Env.get [a0]) H (fn [(.t 2)] R) = s61 S a0 H R := by kernel_rfl
theorem w61 {S : Sys} (hR : S.R 61 = none) (hF : S.F 61 = some k61) (a0 : Value) {H : Heap} {R : Kv} (h : s61 S a0 H R) : Wf S 61 [a0] H R := Wf_sh hR hF ((h61 S a0 H
  R).mpr h)
def b70_1 : KCode := (.seq (.reg [(.op (some 22) none (.bin .lss (.t 21) (.t 20)))]) (.seq (.cond (.t 22) .skip (.exit 2)) (.seq (.block 3 (.seq (.reg [(.op (some 23)
  none (.mv (.t 21))), (.op (some 24) none (.iad 1 (.t 19) (.t 21))), (.op (some 25) none (.ld (.t 24))), (.op (some 7) none (.mv (.t 23))), (.op (some 8) none (.mv (.t
  25)))]) (.seq (.reg [(.op (some 26) none (.mv (.t 8))), (.op (some 27) none (.mv (.t 6))), (.op (some 28) none (.bin .eql (.t 26) (.t 27)))]) (.cond (.t 28) (.seq
  (.reg [(.op (some 29) none (.mv (.t 4))), (.op (some 30) none (.mv (.t 7))), (.op (some 31) none (.mv (.t 5))), (.op (some 32) none (.iad 1 (.t 29) (.t 30))), (.op
  none none (.st (.t 32) (.t 31)))]) (.reg [(.op (some 33) none (.mv (.t 5))), (.op (some 34) none (.bin .add (.t 33) (.c (.int .i64 1)))), (.op (some 5) none (.mv (.t
  34)))])) .skip)))) (.reg [(.op (some 35) none (.bin .add (.t 21) (.c (.int .i64 1)))), (.op (some 21) none (.mv (.t 35)))]))))
def s70_1 (S : Sys) (e : Fe) (H : Heap) (Q : Kx) : Prop := run S (.bin .lss (.c (e 21)) (.c (e 20))) [] H fun t22_26 H => jn (sq (fun e28 H => jn (sq (fun e30 H => run S
  (.bin .add (.c (e30 21)) (.c (.int .i64 1))) [] H fun t35_31 H => Q .normal (upd (upd e30 35 t35_31) 21 t35_31) H) Q) fun Q29 => run S (.iad 1 (.c (e28 19)) (.c (e28
  21))) [] H fun t24_32 H => run S (.ld (.c t24_32)) [] H fun t25_33 H => run S (.bin .eql (.c t25_33) (.c (e28 6))) [] H fun t28_34 H => jn (blk 3 Q29) fun Q35 => cnd
  t28_34 (fun Q36 => run S (.iad 1 (.c (e28 4)) (.c (e28 21))) [] H fun t32_38 H => run S (.st (.c t32_38) (.c (e28 5))) [] H fun _ H => run S (.bin .add (.c (e28 5))
  (.c (.int .i64 1))) [] H fun t34_39 H => Q36 .normal (upd (upd (upd (upd (upd (upd (upd (upd (upd (upd (upd (upd (upd (upd (upd e28 23 (e28 21)) 24 t24_32) 25 t25_33)
  7 (e28 21)) 8 t25_33) 26 t25_33) 27 (e28 6)) 28 t28_34) 29 (e28 4)) 30 (e28 21)) 31 (e28 5)) 32 t32_38) 33 (e28 5)) 34 t34_39) 5 t34_39) H) (fun Q37 => Q37 .normal
  (upd (upd (upd (upd (upd (upd (upd (upd e28 23 (e28 21)) 24 t24_32) 25 t25_33) 7 (e28 21)) 8 t25_33) 26 t25_33) 27 (e28 6)) 28 t28_34) H) Q35) Q) fun Q27 => cnd t22_26
  (fun Q40 => Q40 .normal (upd e 22 t22_26) H) (fun Q41 => Q41 (.exit 2) (upd e 22 t22_26) H) Q27
theorem h70_1 (S : Sys) (e : Fe) (H : Heap) (Q : Kx) : wpC S b70_1 e H Q = s70_1 S e H Q := by kernel_rfl
theorem l70_1 (S : Sys) {Q : Kx} (I : Nat → Fe → Heap → Prop) (d : Nat) {e0 : Fe} {H : Heap} (h0 : I d e0 H) (hr : ∀ (d : Nat) (e : Fe) (H : Heap), I d e H → s70_1 S e H
  (sq (fun e' H' => ∃ d', d' < d ∧ I d' e' H') Q)) : WL S b70_1 e0 H Q := WL_inv I d h0 fun d e H hi => (h70_1 S e H _).mpr (hr d e H hi)
theorem u70_1 (S : Sys) {Q : Kx} {e : Fe} {H : Heap} (h : s70_1 S e H (sq (fun e' H' => WL S b70_1 e' H' Q) Q)) : WL S b70_1 e H Q := WL_once ((h70_1 S e H _).mpr h)
def b70_0 : KCode := (.seq (.seq (.reg [(.op (some 15) none (.mv (.t 6))), (.op (some 16) none (.bin .leq (.t 15) (.c (.int .i64 11))))]) (.cond (.t 16) .skip (.exit
  0))) (.seq (.block 1 (.seq (.seq (.reg [(.op (some 19) none (.mv (.t 0))), (.op (some 20) none (.lenL (.t 19))), (.op (some 21) none (.mv (.c (.int .i64 0))))])
  (.block 2 (.loop (.seq (.reg [(.op (some 22) none (.bin .lss (.t 21) (.t 20)))]) (.seq (.cond (.t 22) .skip (.exit 2)) (.seq (.block 3 (.seq (.reg [(.op (some 23) none
  (.mv (.t 21))), (.op (some 24) none (.iad 1 (.t 19) (.t 21))), (.op (some 25) none (.ld (.t 24))), (.op (some 7) none (.mv (.t 23))), (.op (some 8) none (.mv (.t
  25)))]) (.seq (.reg [(.op (some 26) none (.mv (.t 8))), (.op (some 27) none (.mv (.t 6))), (.op (some 28) none (.bin .eql (.t 26) (.t 27)))]) (.cond (.t 28) (.seq
  (.reg [(.op (some 29) none (.mv (.t 4))), (.op (some 30) none (.mv (.t 7))), (.op (some 31) none (.mv (.t 5))), (.op (some 32) none (.iad 1 (.t 29) (.t 30))), (.op
  none none (.st (.t 32) (.t 31)))]) (.reg [(.op (some 33) none (.mv (.t 5))), (.op (some 34) none (.bin .add (.t 33) (.c (.int .i64 1)))), (.op (some 5) none (.mv (.t
  34)))])) .skip)))) (.reg [(.op (some 35) none (.bin .add (.t 21) (.c (.int .i64 1)))), (.op (some 21) none (.mv (.t 35)))]))))))) (.reg [(.op (some 36) none (.mv (.t
  5))), (.op (some 37) none (.bin .shl (.t 36) (.c (.int .u64 1)))), (.op (some 5) none (.mv (.t 37)))]))) (.reg [(.op (some 17) none (.mv (.t 6))), (.op (some 18) none
  (.bin .add (.t 17) (.c (.int .i64 1)))), (.op (some 6) none (.mv (.t 18)))])))
def s70_0 (S : Sys) (e : Fe) (H : Heap) (Q : Kx) : Prop := run S (.bin .leq (.c (e 6)) (.c (.int .i64 11))) [] H fun t16_12 H => jn (sq (fun e14 H => jn (sq (fun e16 H
  => run S (.bin .add (.c (e16 6)) (.c (.int .i64 1))) [] H fun t18_17 H => Q .normal (upd (upd (upd e16 17 (e16 6)) 18 t18_17) 6 t18_17) H) Q) fun Q15 => run S (.lenL
  (.c (e14 0))) [] H fun t20_18 H => jn (blk 1 Q15) fun Q19 => jn (sq (fun e21 H => run S (.bin .shl (.c (e21 5)) (.c (.int .u64 1))) [] H fun t37_22 H => Q19 .normal
  (upd (upd (upd e21 36 (e21 5)) 37 t37_22) 5 t37_22) H) Q19) fun Q20 => jn (blk 2 Q20) fun Q23 => WL S b70_1 (upd (upd (upd e14 19 (e14 0)) 20 t20_18) 21 (.int .i64 0))
  H Q23) Q) fun Q13 => cnd t16_12 (fun Q24 => Q24 .normal (upd (upd e 15 (e 6)) 16 t16_12) H) (fun Q25 => Q25 (.exit 0) (upd (upd e 15 (e 6)) 16 t16_12) H) Q13
theorem h70_0 (S : Sys) (e : Fe) (H : Heap) (Q : Kx) : wpC S b70_0 e H Q = s70_0 S e H Q := by kernel_rfl
theorem l70_0 (S : Sys) {Q : Kx} (I : Nat → Fe → Heap → Prop) (d : Nat) {e0 : Fe} {H : Heap} (h0 : I d e0 H) (hr : ∀ (d : Nat) (e : Fe) (H : Heap), I d e H → s70_0 S e H
  (sq (fun e' H' => ∃ d', d' < d ∧ I d' e' H') Q)) : WL S b70_0 e0 H Q := WL_inv I d h0 fun d e H hi => (h70_0 S e H _).mpr (hr d e H hi)
theorem u70_0 (S : Sys) {Q : Kx} {e : Fe} {H : Heap} (h : s70_0 S e H (sq (fun e' H' => WL S b70_0 e' H' Q) Q)) : WL S b70_0 e H Q := WL_once ((h70_0 S e H _).mpr h)
def s70 (S : Sys) (a0 : Value) (H : Heap) (R : Kv) : Prop := run S (.call 61 [(.c a0)]) [] H fun t10_1 H => run S (.un .not (.c t10_1)) [] H fun t11_2 H => jn (sq (fun
  e4 H => run S (.lenL (.c (e4 0))) [] H fun t13_5 H => run S (.mks 3 [(.int .i64 0)] 8 (.c t13_5) (.c t13_5)) [] H fun t14_6 H => jn (sq (fun e8 H => R (tup [(e8 4),
  (.bool true)]) H) (fn [(.t 2), (.t 3)] R)) fun Q7 => jn (blk 0 Q7) fun Q9 => WL S b70_0 (upd (upd (upd (upd (upd (upd e4 12 (e4 0)) 13 t13_5) 14 t14_6) 4 t14_6) 5
  (.int .i64 0)) 6 (.int .i64 1)) H Q9) (fn [(.t 2), (.t 3)] R)) fun Q3 => cnd t11_2 (fun Q10 => Q10 .ret (upd (upd (upd (upd (upd (upd (upd (Env.get [a0]) 2 (.slice
  none 0 0)) 3 (.bool false)) 9 a0) 10 t10_1) 11 t11_2) 2 (.slice none 0 0)) 3 (.bool false)) H) (fun Q11 => Q11 .normal (upd (upd (upd (upd (upd (Env.get [a0]) 2
  (.slice none 0 0)) 3 (.bool false)) 9 a0) 10 t10_1) 11 t11_2) H) Q3
theorem h70 (S : Sys) (a0 : Value) (H : Heap) (R : Kv) : wpC S k70.body (Env.get [a0]) H (fn [(.t 2), (.t 3)] R) = s70 S a0 H R := by kernel_rfl
theorem w70 {S : Sys} (hR : S.R 70 = none) (hF : S.F 70 = some k70) (a0 : Value) {H : Heap} {R : Kv} (h : s70 S a0 H R) : Wf S 70 [a0] H R := Wf_sh hR hF ((h70 S a0 H
  R).mpr h)
def b92_0 : KCode := (.seq (.reg [(.op (some 8) none (.bin .lss (.t 7) (.t 6)))]) (.seq (.cond (.t 8) .skip (.exit 0)) (.seq (.block 1 (.seq (.reg [(.op (some 9) none
  (.iad 1 (.t 5) (.t 7))), (.op (some 10) none (.ld (.t 9))), (.op (some 4) none (.mv (.t 10)))]) (.seq (.reg [(.op (some 11) none (.mv (.t 4))), (.op (some 12) none
  (.bin .lss (.t 11) (.c (.int .i64 0)))), (.op (some 13) none (.mv (.t 12))), (.op (some 14) (some (13, false)) (.mv (.t 4))), (.op (some 15) (some (13, false)) (.bin
  .gtr (.t 14) (.c (.int .i64 11)))), (.op (some 16) none (.pick (.t 13) (.c (.bool true)) (.t 15)))]) (.cond (.t 16) (.seq (.reg [(.op (some 2) none (.mv (.c (.bool
  false))))]) .ret) .skip)))) (.reg [(.op (some 17) none (.bin .add (.t 7) (.c (.int .i64 1)))), (.op (some 7) none (.mv (.t 17)))]))))
def s92_0 (S : Sys) (e : Fe) (H : Heap) (Q : Kx) : Prop := run S (.bin .lss (.c (e 7)) (.c (e 6))) [] H fun t8_7 H => jn (sq (fun e9 H => jn (sq (fun e11 H => run S
  (.bin .add (.c (e11 7)) (.c (.int .i64 1))) [] H fun t17_12 H => Q .normal (upd (upd e11 17 t17_12) 7 t17_12) H) Q) fun Q10 => run S (.iad 1 (.c (e9 5)) (.c (e9 7)))
  [] H fun t9_13 H => run S (.ld (.c t9_13)) [] H fun t10_14 H => run S (.bin .lss (.c t10_14) (.c (.int .i64 0))) [] H fun t12_15 H => gd t12_15 false (run S (.mv (.c
  t10_14)) [] H) H fun t14_16 H => gd t12_15 false (run S (.bin .gtr (.c t14_16) (.c (.int .i64 11))) [] H) H fun t15_17 H => run S (.pick (.c t12_15) (.c (.bool true))
  (.c t15_17)) [] H fun t16_18 H => jn (blk 1 Q10) fun Q19 => cnd t16_18 (fun Q20 => Q20 .ret (upd (upd (upd (upd (upd (upd (upd (upd (upd (upd e9 9 t9_13) 10 t10_14) 4
  t10_14) 11 t10_14) 12 t12_15) 13 t12_15) 14 t14_16) 15 t15_17) 16 t16_18) 2 (.bool false)) H) (fun Q21 => Q21 .normal (upd (upd (upd (upd (upd (upd (upd (upd (upd e9 9
  t9_13) 10 t10_14) 4 t10_14) 11 t10_14) 12 t12_15) 13 t12_15) 14 t14_16) 15 t15_17) 16 t16_18) H) Q19) Q) fun Q8 => cnd t8_7 (fun Q22 => Q22 .normal (upd e 8 t8_7) H)
  (fun Q23 => Q23 (.exit 0) (upd e 8 t8_7) H) Q8
theorem h92_0 (S : Sys) (e : Fe) (H : Heap) (Q : Kx) : wpC S b92_0 e H Q = s92_0 S e H Q := by kernel_rfl
theorem l92_0 (S : Sys) {Q : Kx} (I : Nat → Fe → Heap → Prop) (d : Nat) {e0 : Fe} {H : Heap} (h0 : I d e0 H) (hr : ∀ (d : Nat) (e : Fe) (H : Heap), I d e H → s92_0 S e H
  (sq (fun e' H' => ∃ d', d' < d ∧ I d' e' H') Q)) : WL S b92_0 e0 H Q := WL_inv I d h0 fun d e H hi => (h92_0 S e H _).mpr (hr d e H hi)
theorem u92_0 (S : Sys) {Q : Kx} {e : Fe} {H : Heap} (h : s92_0 S e H (sq (fun e' H' => WL S b92_0 e' H' Q) Q)) : WL S b92_0 e H Q := WL_once ((h92_0 S e H _).mpr h)
def s92 (S : Sys) (a0 : Value) (H : Heap) (R : Kv) : Prop := run S (.lenL (.c a0)) [] H fun t6_1 H => jn (sq (fun e3 H => run S (.lenL (.c (e3 0))) [] H fun t19_4 H =>
  run S (.bin .leq (.c t19_4) (.c (.int .i64 256))) [] H fun t20_5 H => R t20_5 H) (fn [(.t 2)] R)) fun Q2 => jn (blk 0 Q2) fun Q6 => WL S b92_0 (upd (upd (upd (upd
  (Env.get [a0]) 2 (.bool false)) 5 a0) 6 t6_1) 7 (.int .i64 0)) H Q6
theorem h92 (S : Sys) (a0 : Value) (H : Heap) (R : Kv) : wpC S k92.body (Env.get [a0]) H (fn [(.t 2)] R) = s92 S a0 H R := by kernel_rfl
theorem w92 {S : Sys} (hR : S.R 92 = none) (hF : S.F 92 = some k92) (a0 : Value) {H : Heap} {R : Kv} (h : s92 S a0 H R) : Wf S 92 [a0] H R := Wf_sh hR hF ((h92 S a0 H
  R).mpr h)
def b99_0 : KCode := (.seq (.reg [(.op (some 15) none (.bin .lss (.t 14) (.t 13)))]) (.seq (.cond (.t 15) .skip (.exit 0)) (.seq (.block 1 (.seq (.reg [(.op (some 16)
  none (.mv (.t 14))), (.op (some 17) none (.iad 1 (.t 12) (.t 14))), (.op (some 18) none (.ld (.t 17))), (.op (some 6) none (.mv (.t 16))), (.op (some 7) none (.mv (.t
  18)))]) (.reg [(.op (some 19) none (.mv (.t 5))), (.op (some 20) none (.mv (.t 7))), (.op (some 21) none (.cvt .u64 (.t 20))), (.op (some 22) none (.mv (.t 6))), (.op
  (some 23) none (.bin .mul (.c (.int .i64 8)) (.t 22))), (.op (some 24) none (.bin .shl (.t 21) (.t 23))), (.op (some 25) none (.bin .or (.t 19) (.t 24))), (.op (some
  5) none (.mv (.t 25)))]))) (.reg [(.op (some 26) none (.bin .add (.t 14) (.c (.int .i64 1)))), (.op (some 14) none (.mv (.t 26)))]))))
def s99_0 (S : Sys) (e : Fe) (H : Heap) (Q : Kx) : Prop := run S (.bin .lss (.c (e 14)) (.c (e 13))) [] H fun t15_8 H => jn (sq (fun e10 H => jn (sq (fun e12 H => run S
  (.bin .add (.c (e12 14)) (.c (.int .i64 1))) [] H fun t26_13 H => Q .normal (upd (upd e12 26 t26_13) 14 t26_13) H) Q) fun Q11 => run S (.iad 1 (.c (e10 12)) (.c (e10
  14))) [] H fun t17_14 H => run S (.ld (.c t17_14)) [] H fun t18_15 H => run S (.cvt .u64 (.c t18_15)) [] H fun t21_16 H => run S (.bin .mul (.c (.int .i64 8)) (.c (e10
  14))) [] H fun t23_17 H => run S (.bin .shl (.c t21_16) (.c t23_17)) [] H fun t24_18 H => run S (.bin .or (.c (e10 5)) (.c t24_18)) [] H fun t25_19 H => Q11 .normal
  (upd (upd (upd (upd (upd (upd (upd (upd (upd (upd (upd (upd (upd e10 16 (e10 14)) 17 t17_14) 18 t18_15) 6 (e10 14)) 7 t18_15) 19 (e10 5)) 20 t18_15) 21 t21_16) 22 (e10
  14)) 23 t23_17) 24 t24_18) 25 t25_19) 5 t25_19) H) Q) fun Q9 => cnd t15_8 (fun Q20 => Q20 .normal (upd e 15 t15_8) H) (fun Q21 => Q21 (.exit 0) (upd e 15 t15_8) H) Q9
theorem h99_0 (S : Sys) (e : Fe) (H : Heap) (Q : Kx) : wpC S b99_0 e H Q = s99_0 S e H Q := by kernel_rfl
theorem l99_0 (S : Sys) {Q : Kx} (I : Nat → Fe → Heap → Prop) (d : Nat) {e0 : Fe} {H : Heap} (h0 : I d e0 H) (hr : ∀ (d : Nat) (e : Fe) (H : Heap), I d e H → s99_0 S e H
  (sq (fun e' H' => ∃ d', d' < d ∧ I d' e' H') Q)) : WL S b99_0 e0 H Q := WL_inv I d h0 fun d e H hi => (h99_0 S e H _).mpr (hr d e H hi)
theorem u99_0 (S : Sys) {Q : Kx} {e : Fe} {H : Heap} (h : s99_0 S e H (sq (fun e' H' => WL S b99_0 e' H' Q) Q)) : WL S b99_0 e H Q := WL_once ((h99_0 S e H _).mpr h)
def s99 (S : Sys) (a0 a1 : Value) (H : Heap) (R : Kv) : Prop := run S (.call 105 [(.c a1)]) [] H fun t10_1 H => run S (.call 102 [(.c a0), (.c t10_1)]) [] H fun t11_2 H
  => run S (.s2b 5 (.c t11_2)) [] H fun t12_3 H => run S (.lenL (.c t12_3)) [] H fun t13_4 H => jn (sq (fun e6 H => R (e6 5) H) (fn [(.t 4)] R)) fun Q5 => jn (blk 0 Q5)
  fun Q7 => WL S b99_0 (upd (upd (upd (upd (upd (upd (upd (upd (upd (Env.get [a0, a1]) 4 (.int .u64 0)) 5 (.int .u64 0)) 8 a0) 9 a1) 10 t10_1) 11 t11_2) 12 t12_3) 13
  t13_4) 14 (.int .i64 0)) H Q7
theorem h99 (S : Sys) (a0 a1 : Value) (H : Heap) (R : Kv) : wpC S k99.body (Env.get [a0, a1]) H (fn [(.t 4)] R) = s99 S a0 a1 H R := by kernel_rfl
theorem w99 {S : Sys} (hR : S.R 99 = none) (hF : S.F 99 = some k99) (a0 a1 : Value) {H : Heap} {R : Kv} (h : s99 S a0 a1 H R) : Wf S 99 [a0, a1] H R := Wf_sh hR hF ((h99
  S a0 a1 H R).mpr h)
def s101 (S : Sys) (a0 : Value) (H : Heap) (R : Kv) : Prop := run S (.eqv .ptr false (.c a0) (.c (.pointer none))) [] H fun t4_1 H => gd t4_1 false (run S (.mv (.c a0))
  [] H) H fun t6_2 H => gd t4_1 false (run S (.nck (.c t6_2)) [] H) H fun t7_3 H => gd t4_1 false (run S (.fad 1 (.c t7_3)) [] H) H fun t8_4 H => gd t4_1 false (run S
  (.ld (.c t8_4)) [] H) H fun t9_5 H => run S (.pick (.c t4_1) (.c (.bool true)) (.c t9_5)) [] H fun t10_6 H => R t10_6 H
theorem h101 (S : Sys) (a0 : Value) (H : Heap) (R : Kv) : wpC S k101.body (Env.get [a0]) H (fn [(.t 2)] R) = s101 S a0 H R := by kernel_rfl
theorem w101 {S : Sys} (hR : S.R 101 = none) (hF : S.F 101 = some k101) (a0 : Value) {H : Heap} {R : Kv} (h : s101 S a0 H R) : Wf S 101 [a0] H R := Wf_sh hR hF ((h101 S
  a0 H R).mpr h)
def s102 (S : Sys) (a0 a1 : Value) (H : Heap) (R : Kv) : Prop := run S (.mx (.c a1) [(.c (.int .i64 0))]) [] H fun t7_1 H => run S (.call 101 [(.c a0)]) [] H fun t9_2 H
  => gd t9_2 false (run S (.mv (.c a0)) [] H) H fun t11_3 H => gd t9_2 false (run S (.nck (.c t11_3)) [] H) H fun t12_4 H => gd t9_2 false (run S (.fad 0 (.c t12_4)) []
  H) H fun t13_5 H => gd t9_2 false (run S (.ld (.c t13_5)) [] H) H fun t14_6 H => gd t9_2 false (run S (.lenS (.c t14_6)) [] H) H fun t15_7 H => gd t9_2 false (run S
  (.mv (.c t7_1)) [] H) H fun t16_8 H => gd t9_2 false (run S (.bin .lss (.c t15_7) (.c t16_8)) [] H) H fun t17_9 H => run S (.pick (.c t9_2) (.c (.bool true)) (.c
  t17_9)) [] H fun t18_10 H => jn (sq (fun e12 H => run S (.nck (.c (e12 0))) [] H fun t22_13 H => run S (.fad 0 (.c t22_13)) [] H fun t23_14 H => run S (.ld (.c
  t23_14)) [] H fun t24_15 H => run S (.slS (.c t24_15) none (some (.c (e12 1)))) [] H fun t26_16 H => run S (.nck (.c (e12 0))) [] H fun t29_17 H => run S (.fad 0 (.c
  t29_17)) [] H fun t30_18 H => run S (.ld (.c t30_18)) [] H fun t31_19 H => run S (.slS (.c t31_19) (some (.c (e12 1))) none) [] H fun t33_20 H => run S (.nck (.c (e12
  0))) [] H fun t34_21 H => run S (.fad 0 (.c t34_21)) [] H fun t35_22 H => run S (.st (.c t35_22) (.c t33_20)) [] H fun _ H => R t26_16 H) (fn [(.t 4)] R)) fun Q11 =>
  cnd t18_10 (fun Q23 => run S (.call 126 [(.c a0)]) [] H fun t20_25 H => Q23 .ret (upd (upd (upd (upd (upd (upd (upd (upd (upd (upd (upd (upd (upd (upd (upd (upd (upd
  (upd (Env.get [a0, a1]) 4 (.string (bs []))) 6 a1) 7 t7_1) 1 t7_1) 8 a0) 9 t9_2) 10 t9_2) 11 t11_3) 12 t12_4) 13 t13_5) 14 t14_6) 15 t15_7) 16 t16_8) 17 t17_9) 18
  t18_10) 19 a0) 20 t20_25) 4 (.string (bs []))) H) (fun Q24 => Q24 .normal (upd (upd (upd (upd (upd (upd (upd (upd (upd (upd (upd (upd (upd (upd (upd (Env.get [a0, a1])
  4 (.string (bs []))) 6 a1) 7 t7_1) 1 t7_1) 8 a0) 9 t9_2) 10 t9_2) 11 t11_3) 12 t12_4) 13 t13_5) 14 t14_6) 15 t15_7) 16 t16_8) 17 t17_9) 18 t18_10) H) Q11
theorem h102 (S : Sys) (a0 a1 : Value) (H : Heap) (R : Kv) : wpC S k102.body (Env.get [a0, a1]) H (fn [(.t 4)] R) = s102 S a0 a1 H R := by kernel_rfl
theorem w102 {S : Sys} (hR : S.R 102 = none) (hF : S.F 102 = some k102) (a0 a1 : Value) {H : Heap} {R : Kv} (h : s102 S a0 a1 H R) : Wf S 102 [a0, a1] H R := Wf_sh hR hF
  ((h102 S a0 a1 H R).mpr h)
def s105 (S : Sys) (a0 : Value) (H : Heap) (R : Kv) : Prop := run S (.mx (.c a0) [(.c (.int .i64 0))]) [] H fun t4_1 H => run S (.mn (.c t4_1) [(.c (.int .i64 8))]) [] H
  fun t5_2 H => R t5_2 H
theorem h105 (S : Sys) (a0 : Value) (H : Heap) (R : Kv) : wpC S k105.body (Env.get [a0]) H (fn [(.t 2)] R) = s105 S a0 H R := by kernel_rfl
theorem w105 {S : Sys} (hR : S.R 105 = none) (hF : S.F 105 = some k105) (a0 : Value) {H : Heap} {R : Kv} (h : s105 S a0 H R) : Wf S 105 [a0] H R := Wf_sh hR hF ((h105 S
  a0 H R).mpr h)
def b111_0 : KCode := (.seq (.seq (.reg [(.op (some 9) none (.mv (.t 3))), (.op (some 10) none (.bin .geq (.t 9) (.c (.int .i64 0))))]) (.cond (.t 10) .skip (.exit 0)))
  (.seq (.block 1 (.reg [(.op (some 13) none (.mv (.t 0))), (.op (some 14) none (.mv (.t 3))), (.op (some 15) none (.mv (.t 2))), (.op (some 16) none (.call 131 [(.t
  13), (.t 14), (.t 15)]))])) (.reg [(.op (some 11) none (.mv (.t 3))), (.op (some 12) none (.bin .sub (.t 11) (.c (.int .i64 1)))), (.op (some 3) none (.mv (.t 12)))])))
def s111_0 (S : Sys) (e : Fe) (H : Heap) (Q : Kx) : Prop := run S (.bin .geq (.c (e 3)) (.c (.int .i64 0))) [] H fun t10_5 H => jn (sq (fun e7 H => jn (sq (fun e9 H =>
  run S (.bin .sub (.c (e9 3)) (.c (.int .i64 1))) [] H fun t12_10 H => Q .normal (upd (upd (upd e9 11 (e9 3)) 12 t12_10) 3 t12_10) H) Q) fun Q8 => run S (.call 131 [(.c
  (e7 0)), (.c (e7 3)), (.c (e7 2))]) [] H fun t16_11 H => Q8 .normal (upd (upd (upd (upd e7 13 (e7 0)) 14 (e7 3)) 15 (e7 2)) 16 t16_11) H) Q) fun Q6 => cnd t10_5 (fun
  Q12 => Q12 .normal (upd (upd e 9 (e 3)) 10 t10_5) H) (fun Q13 => Q13 (.exit 0) (upd (upd e 9 (e 3)) 10 t10_5) H) Q6
theorem h111_0 (S : Sys) (e : Fe) (H : Heap) (Q : Kx) : wpC S b111_0 e H Q = s111_0 S e H Q := by kernel_rfl
theorem l111_0 (S : Sys) {Q : Kx} (I : Nat → Fe → Heap → Prop) (d : Nat) {e0 : Fe} {H : Heap} (h0 : I d e0 H) (hr : ∀ (d : Nat) (e : Fe) (H : Heap), I d e H → s111_0 S e
  H (sq (fun e' H' => ∃ d', d' < d ∧ I d' e' H') Q)) : WL S b111_0 e0 H Q := WL_inv I d h0 fun d e H hi => (h111_0 S e H _).mpr (hr d e H hi)
theorem u111_0 (S : Sys) {Q : Kx} {e : Fe} {H : Heap} (h : s111_0 S e H (sq (fun e' H' => WL S b111_0 e' H' Q) Q)) : WL S b111_0 e H Q := WL_once ((h111_0 S e H _).mpr h)
def s111 (S : Sys) (a0 : Value) (H : Heap) (R : Kv) : Prop := run S (.inv (.c a0) "Len" []) [] H fun t5_1 H => run S (.bin .quo (.c t5_1) (.c (.int .i64 2))) [] H fun
  t7_2 H => run S (.bin .sub (.c t7_2) (.c (.int .i64 1))) [] H fun t8_3 H => jn (blk 0 (fn [] R)) fun Q4 => WL S b111_0 (upd (upd (upd (upd (upd (upd (upd (Env.get
  [a0]) 4 a0) 5 t5_1) 2 t5_1) 6 t5_1) 7 t7_2) 8 t8_3) 3 t8_3) H Q4
theorem h111 (S : Sys) (a0 : Value) (H : Heap) (R : Kv) : wpC S k111.body (Env.get [a0]) H (fn [] R) = s111 S a0 H R := by kernel_rfl
theorem w111 {S : Sys} (hR : S.R 111 = none) (hF : S.F 111 = some k111) (a0 : Value) {H : Heap} {R : Kv} (h : s111 S a0 H R) : Wf S 111 [a0] H R := Wf_sh hR hF ((h111 S
  a0 H R).mpr h)
end Go.Proofs.Ytlboioplemlneaa.K
/- The functions as nested words with named values, each held against its code by the kernel. Printed by a program of this work (sh.py). -/
set_option maxRecDepth 100000
set_option linter.unusedVariables false
namespace Go.Proofs.Ytlboioplemlneaa.K
open Go Go.Proofs
def s113 (S : Sys) (a0 : Value) (H : Heap) (R : Kv) : Prop := run S (.inv (.c a0) "Len" []) [] H fun t5_1 H => run S (.bin .sub (.c t5_1) (.c (.int .i64 1))) [] H fun
  t6_2 H => run S (.inv (.c a0) "Swap" [(.c (.int .i64 0)), (.c t6_2)]) [] H fun t9_3 H => run S (.call 131 [(.c a0), (.c (.int .i64 0)), (.c t6_2)]) [] H fun t12_4 H =>
  run S (.inv (.c a0) "Pop" []) [] H fun t14_5 H => R t14_5 H
theorem h113 (S : Sys) (a0 : Value) (H : Heap) (R : Kv) : wpC S k113.body (Env.get [a0]) H (fn [(.t 2)] R) = s113 S a0 H R := by kernel_rfl
theorem w113 {S : Sys} (hR : S.R 113 = none) (hF : S.F 113 = some k113) (a0 : Value) {H : Heap} {R : Kv} (h : s113 S a0 H R) : Wf S 113 [a0] H R := Wf_sh hR hF ((h113 S
  a0 H R).mpr h)
def s114 (S : Sys) (a0 a1 : Value) (H : Heap) (R : Kv) : Prop := run S (.inv (.c a0) "Push" [(.c a1)]) [] H fun t6_1 H => run S (.inv (.c a0) "Len" []) [] H fun t9_2 H
  => run S (.bin .sub (.c t9_2) (.c (.int .i64 1))) [] H fun t10_3 H => run S (.call 132 [(.c a0), (.c t10_3)]) [] H fun t11_4 H => R (tup []) H
theorem h114 (S : Sys) (a0 a1 : Value) (H : Heap) (R : Kv) : wpC S k114.body (Env.get [a0, a1]) H (fn [] R) = s114 S a0 a1 H R := by kernel_rfl
theorem w114 {S : Sys} (hR : S.R 114 = none) (hF : S.F 114 = some k114) (a0 a1 : Value) {H : Heap} {R : Kv} (h : s114 S a0 a1 H R) : Wf S 114 [a0, a1] H R := Wf_sh hR hF
  ((h114 S a0 a1 H R).mpr h)
def s119 (S : Sys) (a0 : Value) (H : Heap) (R : Kv) : Prop := run S (.lenL (.c a0)) [] H fun t4_1 H => R t4_1 H
theorem h119 (S : Sys) (a0 : Value) (H : Heap) (R : Kv) : wpC S k119.body (Env.get [a0]) H (fn [(.t 2)] R) = s119 S a0 H R := by kernel_rfl
theorem w119 {S : Sys} (hR : S.R 119 = none) (hF : S.F 119 = some k119) (a0 : Value) {H : Heap} {R : Kv} (h : s119 S a0 H R) : Wf S 119 [a0] H R := Wf_sh hR hF ((h119 S
  a0 H R).mpr h)
def s124 (S : Sys) (a0 a1 : Value) (H : Heap) (R : Kv) : Prop := run S (.call 137 [(.c a0)]) [] H fun t8_1 H => run S (.call 137 [(.c a1)]) [] H fun t10_2 H => jn (sq
  (fun e4 H => jn (sq (fun e6 H => run S (.bin .lss (.c (e6 0)) (.c (e6 1))) [] H fun t16_7 H => jn (sq (fun e9 H => run S (.bin .gtr (.c (e9 0)) (.c (e9 1))) [] H fun
  t19_10 H => jn (sq (fun e12 H => R (.int .i64 0) H) (fn [(.t 4)] R)) fun Q11 => cnd t19_10 (fun Q13 => Q13 .ret (upd (upd (upd (upd e9 17 (e9 0)) 18 (e9 1)) 19 t19_10)
  4 (.int .i64 1)) H) (fun Q14 => Q14 .normal (upd (upd (upd e9 17 (e9 0)) 18 (e9 1)) 19 t19_10) H) Q11) (fn [(.t 4)] R)) fun Q8 => cnd t16_7 (fun Q15 => Q15 .ret (upd
  (upd (upd (upd e6 14 (e6 0)) 15 (e6 1)) 16 t16_7) 4 (.int .i64 (-1))) H) (fun Q16 => Q16 .normal (upd (upd (upd e6 14 (e6 0)) 15 (e6 1)) 16 t16_7) H) Q8) (fn [(.t 4)]
  R)) fun Q5 => cnd (e4 6) (fun Q17 => Q17 .ret (upd (upd e4 13 (e4 6)) 4 (.int .i64 1)) H) (fun Q18 => Q18 .normal (upd e4 13 (e4 6)) H) Q5) (fn [(.t 4)] R)) fun Q3 =>
  cnd t8_1 (fun Q19 => jn (sq (fun e22 H => Q19 .ret (upd e22 4 (.int .i64 (-1))) H) Q19) fun Q21 => cnd t10_2 (fun Q23 => Q23 .ret (upd (upd (upd (upd (upd (upd (upd
  (upd (upd (upd (Env.get [a0, a1]) 4 (.int .i64 0)) 7 a0) 8 t8_1) 5 t8_1) 9 a1) 10 t10_2) 6 t10_2) 11 t8_1) 12 t10_2) 4 (.int .i64 0)) H) (fun Q24 => Q24 .normal (upd
  (upd (upd (upd (upd (upd (upd (upd (upd (Env.get [a0, a1]) 4 (.int .i64 0)) 7 a0) 8 t8_1) 5 t8_1) 9 a1) 10 t10_2) 6 t10_2) 11 t8_1) 12 t10_2) H) Q21) (fun Q20 => Q20
  .normal (upd (upd (upd (upd (upd (upd (upd (upd (Env.get [a0, a1]) 4 (.int .i64 0)) 7 a0) 8 t8_1) 5 t8_1) 9 a1) 10 t10_2) 6 t10_2) 11 t8_1) H) Q3
theorem h124 (S : Sys) (a0 a1 : Value) (H : Heap) (R : Kv) : wpC S k124.body (Env.get [a0, a1]) H (fn [(.t 4)] R) = s124 S a0 a1 H R := by kernel_rfl
theorem w124 {S : Sys} (hR : S.R 124 = none) (hF : S.F 124 = some k124) (a0 a1 : Value) {H : Heap} {R : Kv} (h : s124 S a0 a1 H R) : Wf S 124 [a0, a1] H R := Wf_sh hR hF
  ((h124 S a0 a1 H R).mpr h)
def s126 (S : Sys) (a0 : Value) (H : Heap) (R : Kv) : Prop := run S (.eqv .ptr true (.c a0) (.c (.pointer none))) [] H fun t3_1 H => cnd t3_1 (fun Q2 => run S (.nck (.c
  a0)) [] H fun t6_4 H => run S (.fad 0 (.c t6_4)) [] H fun t7_5 H => run S (.st (.c t7_5) (.c (.string (bs [])))) [] H fun _ H => run S (.nck (.c a0)) [] H fun t8_6 H
  => run S (.fad 1 (.c t8_6)) [] H fun t9_7 H => run S (.st (.c t9_7) (.c (.bool true))) [] H fun _ H => Q2 .normal (upd (upd (upd (upd (upd (upd (upd (upd (Env.get
  [a0]) 2 a0) 3 t3_1) 4 a0) 5 a0) 6 t6_4) 7 t7_5) 8 t8_6) 9 t9_7) H) (fun Q3 => Q3 .normal (upd (upd (Env.get [a0]) 2 a0) 3 t3_1) H) (fn [] R)
theorem h126 (S : Sys) (a0 : Value) (H : Heap) (R : Kv) : wpC S k126.body (Env.get [a0]) H (fn [] R) = s126 S a0 H R := by kernel_rfl
theorem w126 {S : Sys} (hR : S.R 126 = none) (hF : S.F 126 = some k126) (a0 : Value) {H : Heap} {R : Kv} (h : s126 S a0 H R) : Wf S 126 [a0] H R := Wf_sh hR hF ((h126 S
  a0 H R).mpr h)
def b131_0 : KCode := (.block 1 (.seq (.reg [(.op (some 12) none (.mv (.t 7))), (.op (some 13) none (.bin .mul (.c (.int .i64 2)) (.t 12))), (.op (some 14) none (.bin
  .add (.t 13) (.c (.int .i64 1)))), (.op (some 8) none (.mv (.t 14)))]) (.seq (.seq (.reg [(.op (some 15) none (.mv (.t 8))), (.op (some 16) none (.mv (.t 2))), (.op
  (some 17) none (.bin .geq (.t 15) (.t 16))), (.op (some 18) none (.mv (.t 17))), (.op (some 19) (some (18, false)) (.mv (.t 8))), (.op (some 20) (some (18, false))
  (.bin .lss (.t 19) (.c (.int .i64 0)))), (.op (some 21) none (.pick (.t 18) (.c (.bool true)) (.t 20)))]) (.cond (.t 21) (.exit 0) .skip)) (.seq (.reg [(.op (some 22)
  none (.mv (.t 8))), (.op (some 9) none (.mv (.t 22)))]) (.seq (.seq (.reg [(.op (some 23) none (.mv (.t 8))), (.op (some 24) none (.bin .add (.t 23) (.c (.int .i64
  1)))), (.op (some 10) none (.mv (.t 24)))]) (.seq (.reg [(.op (some 25) none (.mv (.t 10))), (.op (some 26) none (.mv (.t 2))), (.op (some 27) none (.bin .lss (.t 25)
  (.t 26))), (.op (some 28) none (.mv (.t 27))), (.op (some 29) (some (28, true)) (.mv (.t 0))), (.op (some 30) (some (28, true)) (.mv (.t 10))), (.op (some 31) (some
  (28, true)) (.mv (.t 8))), (.op (some 32) (some (28, true)) (.inv (.t 29) "Less" [(.t 30), (.t 31)])), (.op (some 33) none (.pick (.t 28) (.t 32) (.c (.bool
  false))))]) (.cond (.t 33) (.reg [(.op (some 34) none (.mv (.t 10))), (.op (some 9) none (.mv (.t 34)))]) .skip))) (.seq (.seq (.reg [(.op (some 35) none (.mv (.t
  0))), (.op (some 36) none (.mv (.t 9))), (.op (some 37) none (.mv (.t 7))), (.op (some 38) none (.inv (.t 35) "Less" [(.t 36), (.t 37)])), (.op (some 39) none (.un
  .not (.t 38)))]) (.cond (.t 39) (.exit 0) .skip)) (.seq (.reg [(.op (some 40) none (.mv (.t 0))), (.op (some 41) none (.mv (.t 7))), (.op (some 42) none (.mv (.t 9))),
  (.op (some 43) none (.inv (.t 40) "Swap" [(.t 41), (.t 42)]))]) (.reg [(.op (some 44) none (.mv (.t 9))), (.op (some 7) none (.mv (.t 44)))]))))))))
def s131_0 (S : Sys) (e : Fe) (H : Heap) (Q : Kx) : Prop := run S (.bin .mul (.c (.int .i64 2)) (.c (e 7))) [] H fun t13_5 H => run S (.bin .add (.c t13_5) (.c (.int
  .i64 1))) [] H fun t14_6 H => run S (.bin .geq (.c t14_6) (.c (e 2))) [] H fun t17_7 H => gd t17_7 false (run S (.mv (.c t14_6)) [] H) H fun t19_8 H => gd t17_7 false
  (run S (.bin .lss (.c t19_8) (.c (.int .i64 0))) [] H) H fun t20_9 H => run S (.pick (.c t17_7) (.c (.bool true)) (.c t20_9)) [] H fun t21_10 H => jn (blk 1 Q) fun Q11
  => jn (sq (fun e13 H => run S (.bin .add (.c (e13 8)) (.c (.int .i64 1))) [] H fun t24_14 H => run S (.bin .lss (.c t24_14) (.c (e13 2))) [] H fun t27_15 H => gd
  t27_15 true (run S (.mv (.c (e13 0))) [] H) H fun t29_16 H => gd t27_15 true (run S (.mv (.c t24_14)) [] H) H fun t30_17 H => gd t27_15 true (run S (.mv (.c (e13 8)))
  [] H) H fun t31_18 H => gd t27_15 true (run S (.inv (.c t29_16) "Less" [(.c t30_17), (.c t31_18)]) [] H) H fun t32_19 H => run S (.pick (.c t27_15) (.c t32_19) (.c
  (.bool false))) [] H fun t33_20 H => jn (sq (fun e22 H => run S (.inv (.c (e22 0)) "Less" [(.c (e22 9)), (.c (e22 7))]) [] H fun t38_23 H => run S (.un .not (.c
  t38_23)) [] H fun t39_24 H => jn (sq (fun e26 H => run S (.inv (.c (e26 0)) "Swap" [(.c (e26 7)), (.c (e26 9))]) [] H fun t43_27 H => Q11 .normal (upd (upd (upd (upd
  (upd (upd e26 40 (e26 0)) 41 (e26 7)) 42 (e26 9)) 43 t43_27) 44 (e26 9)) 7 (e26 9)) H) Q11) fun Q25 => cnd t39_24 (fun Q28 => Q28 (.exit 0) (upd (upd (upd (upd (upd
  e22 35 (e22 0)) 36 (e22 9)) 37 (e22 7)) 38 t38_23) 39 t39_24) H) (fun Q29 => Q29 .normal (upd (upd (upd (upd (upd e22 35 (e22 0)) 36 (e22 9)) 37 (e22 7)) 38 t38_23) 39
  t39_24) H) Q25) Q11) fun Q21 => cnd t33_20 (fun Q30 => Q30 .normal (upd (upd (upd (upd (upd (upd (upd (upd (upd (upd (upd (upd (upd (upd (upd (upd e13 22 (e13 8)) 9
  (e13 8)) 23 (e13 8)) 24 t24_14) 10 t24_14) 25 t24_14) 26 (e13 2)) 27 t27_15) 28 t27_15) 29 t29_16) 30 t30_17) 31 t31_18) 32 t32_19) 33 t33_20) 34 t24_14) 9 t24_14) H)
  (fun Q31 => Q31 .normal (upd (upd (upd (upd (upd (upd (upd (upd (upd (upd (upd (upd (upd (upd e13 22 (e13 8)) 9 (e13 8)) 23 (e13 8)) 24 t24_14) 10 t24_14) 25 t24_14)
  26 (e13 2)) 27 t27_15) 28 t27_15) 29 t29_16) 30 t30_17) 31 t31_18) 32 t32_19) 33 t33_20) H) Q21) Q11) fun Q12 => cnd t21_10 (fun Q32 => Q32 (.exit 0) (upd (upd (upd
  (upd (upd (upd (upd (upd (upd (upd (upd e 12 (e 7)) 13 t13_5) 14 t14_6) 8 t14_6) 15 t14_6) 16 (e 2)) 17 t17_7) 18 t17_7) 19 t19_8) 20 t20_9) 21 t21_10) H) (fun Q33 =>
  Q33 .normal (upd (upd (upd (upd (upd (upd (upd (upd (upd (upd (upd e 12 (e 7)) 13 t13_5) 14 t14_6) 8 t14_6) 15 t14_6) 16 (e 2)) 17 t17_7) 18 t17_7) 19 t19_8) 20 t20_9)
  21 t21_10) H) Q12
theorem h131_0 (S : Sys) (e : Fe) (H : Heap) (Q : Kx) : wpC S b131_0 e H Q = s131_0 S e H Q := by kernel_rfl
theorem l131_0 (S : Sys) {Q : Kx} (I : Nat → Fe → Heap → Prop) (d : Nat) {e0 : Fe} {H : Heap} (h0 : I d e0 H) (hr : ∀ (d : Nat) (e : Fe) (H : Heap), I d e H → s131_0 S e
  H (sq (fun e' H' => ∃ d', d' < d ∧ I d' e' H') Q)) : WL S b131_0 e0 H Q := WL_inv I d h0 fun d e H hi => (h131_0 S e H _).mpr (hr d e H hi)
theorem u131_0 (S : Sys) {Q : Kx} {e : Fe} {H : Heap} (h : s131_0 S e H (sq (fun e' H' => WL S b131_0 e' H' Q) Q)) : WL S b131_0 e H Q := WL_once ((h131_0 S e H _).mpr h)
def s131 (S : Sys) (a0 a1 a2 : Value) (H : Heap) (R : Kv) : Prop := jn (sq (fun e2 H => run S (.bin .gtr (.c (e2 7)) (.c (e2 1))) [] H fun t47_3 H => R t47_3 H) (fn [(.t
  6)] R)) fun Q1 => jn (blk 0 Q1) fun Q4 => WL S b131_0 (upd (upd (upd (Env.get [a0, a1, a2]) 6 (.bool false)) 11 a1) 7 a1) H Q4
theorem h131 (S : Sys) (a0 a1 a2 : Value) (H : Heap) (R : Kv) : wpC S k131.body (Env.get [a0, a1, a2]) H (fn [(.t 6)] R) = s131 S a0 a1 a2 H R := by kernel_rfl
theorem w131 {S : Sys} (hR : S.R 131 = none) (hF : S.F 131 = some k131) (a0 a1 a2 : Value) {H : Heap} {R : Kv} (h : s131 S a0 a1 a2 H R) : Wf S 131 [a0, a1, a2] H R :=
  Wf_sh hR hF ((h131 S a0 a1 a2 H R).mpr h)
def b132_0 : KCode := (.block 1 (.seq (.reg [(.op (some 5) none (.mv (.t 1))), (.op (some 6) none (.bin .sub (.t 5) (.c (.int .i64 1)))), (.op (some 7) none (.bin .quo
  (.t 6) (.c (.int .i64 2)))), (.op (some 4) none (.mv (.t 7)))]) (.seq (.seq (.reg [(.op (some 8) none (.mv (.t 4))), (.op (some 9) none (.mv (.t 1))), (.op (some 10)
  none (.bin .eql (.t 8) (.t 9))), (.op (some 11) none (.mv (.t 10))), (.op (some 12) (some (11, false)) (.mv (.t 0))), (.op (some 13) (some (11, false)) (.mv (.t 1))),
  (.op (some 14) (some (11, false)) (.mv (.t 4))), (.op (some 15) (some (11, false)) (.inv (.t 12) "Less" [(.t 13), (.t 14)])), (.op (some 16) (some (11, false)) (.un
  .not (.t 15))), (.op (some 17) none (.pick (.t 11) (.c (.bool true)) (.t 16)))]) (.cond (.t 17) (.exit 0) .skip)) (.seq (.reg [(.op (some 18) none (.mv (.t 0))), (.op
  (some 19) none (.mv (.t 4))), (.op (some 20) none (.mv (.t 1))), (.op (some 21) none (.inv (.t 18) "Swap" [(.t 19), (.t 20)]))]) (.reg [(.op (some 22) none (.mv (.t
  4))), (.op (some 1) none (.mv (.t 22)))])))))
def s132_0 (S : Sys) (e : Fe) (H : Heap) (Q : Kx) : Prop := run S (.bin .sub (.c (e 1)) (.c (.int .i64 1))) [] H fun t6_2 H => run S (.bin .quo (.c t6_2) (.c (.int .i64
  2))) [] H fun t7_3 H => run S (.bin .eql (.c t7_3) (.c (e 1))) [] H fun t10_4 H => gd t10_4 false (run S (.mv (.c (e 0))) [] H) H fun t12_5 H => gd t10_4 false (run S
  (.mv (.c (e 1))) [] H) H fun t13_6 H => gd t10_4 false (run S (.mv (.c t7_3)) [] H) H fun t14_7 H => gd t10_4 false (run S (.inv (.c t12_5) "Less" [(.c t13_6), (.c
  t14_7)]) [] H) H fun t15_8 H => gd t10_4 false (run S (.un .not (.c t15_8)) [] H) H fun t16_9 H => run S (.pick (.c t10_4) (.c (.bool true)) (.c t16_9)) [] H fun
  t17_10 H => jn (blk 1 Q) fun Q11 => jn (sq (fun e13 H => run S (.inv (.c (e13 0)) "Swap" [(.c (e13 4)), (.c (e13 1))]) [] H fun t21_14 H => Q11 .normal (upd (upd (upd
  (upd (upd (upd e13 18 (e13 0)) 19 (e13 4)) 20 (e13 1)) 21 t21_14) 22 (e13 4)) 1 (e13 4)) H) Q11) fun Q12 => cnd t17_10 (fun Q15 => Q15 (.exit 0) (upd (upd (upd (upd
  (upd (upd (upd (upd (upd (upd (upd (upd (upd (upd e 5 (e 1)) 6 t6_2) 7 t7_3) 4 t7_3) 8 t7_3) 9 (e 1)) 10 t10_4) 11 t10_4) 12 t12_5) 13 t13_6) 14 t14_7) 15 t15_8) 16
  t16_9) 17 t17_10) H) (fun Q16 => Q16 .normal (upd (upd (upd (upd (upd (upd (upd (upd (upd (upd (upd (upd (upd (upd e 5 (e 1)) 6 t6_2) 7 t7_3) 4 t7_3) 8 t7_3) 9 (e 1))
  10 t10_4) 11 t10_4) 12 t12_5) 13 t13_6) 14 t14_7) 15 t15_8) 16 t16_9) 17 t17_10) H) Q12
theorem h132_0 (S : Sys) (e : Fe) (H : Heap) (Q : Kx) : wpC S b132_0 e H Q = s132_0 S e H Q := by kernel_rfl
theorem l132_0 (S : Sys) {Q : Kx} (I : Nat → Fe → Heap → Prop) (d : Nat) {e0 : Fe} {H : Heap} (h0 : I d e0 H) (hr : ∀ (d : Nat) (e : Fe) (H : Heap), I d e H → s132_0 S e
  H (sq (fun e' H' => ∃ d', d' < d ∧ I d' e' H') Q)) : WL S b132_0 e0 H Q := WL_inv I d h0 fun d e H hi => (h132_0 S e H _).mpr (hr d e H hi)
theorem u132_0 (S : Sys) {Q : Kx} {e : Fe} {H : Heap} (h : s132_0 S e H (sq (fun e' H' => WL S b132_0 e' H' Q) Q)) : WL S b132_0 e H Q := WL_once ((h132_0 S e H _).mpr h)
def s132 (S : Sys) (a0 a1 : Value) (H : Heap) (R : Kv) : Prop := jn (blk 0 (fn [] R)) fun Q1 => WL S b132_0 (Env.get [a0, a1]) H Q1
theorem h132 (S : Sys) (a0 a1 : Value) (H : Heap) (R : Kv) : wpC S k132.body (Env.get [a0, a1]) H (fn [] R) = s132 S a0 a1 H R := by kernel_rfl
theorem w132 {S : Sys} (hR : S.R 132 = none) (hF : S.F 132 = some k132) (a0 a1 : Value) {H : Heap} {R : Kv} (h : s132 S a0 a1 H R) : Wf S 132 [a0, a1] H R := Wf_sh hR hF
  ((h132 S a0 a1 H R).mpr h)
def s137 (S : Sys) (a0 : Value) (H : Heap) (R : Kv) : Prop := run S (.bin .neq (.c a0) (.c a0)) [] H fun t5_1 H => R t5_1 H
theorem h137 (S : Sys) (a0 : Value) (H : Heap) (R : Kv) : wpC S k137.body (Env.get [a0]) H (fn [(.t 2)] R) = s137 S a0 H R := by kernel_rfl
theorem w137 {S : Sys} (hR : S.R 137 = none) (hF : S.F 137 = some k137) (a0 : Value) {H : Heap} {R : Kv} (h : s137 S a0 H R) : Wf S 137 [a0] H R := Wf_sh hR hF ((h137 S
  a0 H R).mpr h)
def b167_0 : KCode := (.seq (.reg [(.op (some 9) none (.bin .lss (.t 8) (.t 7)))]) (.seq (.cond (.t 9) .skip (.exit 0)) (.seq (.block 1 (.seq (.reg [(.op (some 10) none
  (.iad 1 (.t 6) (.t 8))), (.op (some 11) none (.ld (.t 10))), (.op (some 5) none (.mv (.t 11)))]) (.seq (.reg [(.op (some 12) none (.mv (.t 5))), (.op (some 13) none
  (.mv (.t 3))), (.op (some 14) none (.bin .neq (.t 12) (.t 13)))]) (.cond (.t 14) (.seq (.reg [(.op (some 15) none (.mv (.t 5))), (.op (some 2) none (.mv (.t 15)))])
  .ret) .skip)))) (.reg [(.op (some 16) none (.bin .add (.t 8) (.c (.int .i64 1)))), (.op (some 8) none (.mv (.t 16)))]))))
def s167_0 (S : Sys) (e : Fe) (H : Heap) (Q : Kx) : Prop := run S (.bin .lss (.c (e 8)) (.c (e 7))) [] H fun t9_5 H => jn (sq (fun e7 H => jn (sq (fun e9 H => run S
  (.bin .add (.c (e9 8)) (.c (.int .i64 1))) [] H fun t16_10 H => Q .normal (upd (upd e9 16 t16_10) 8 t16_10) H) Q) fun Q8 => run S (.iad 1 (.c (e7 6)) (.c (e7 8))) [] H
  fun t10_11 H => run S (.ld (.c t10_11)) [] H fun t11_12 H => run S (.bin .neq (.c t11_12) (.c (e7 3))) [] H fun t14_13 H => jn (blk 1 Q8) fun Q14 => cnd t14_13 (fun
  Q15 => Q15 .ret (upd (upd (upd (upd (upd (upd (upd (upd e7 10 t10_11) 11 t11_12) 5 t11_12) 12 t11_12) 13 (e7 3)) 14 t14_13) 15 t11_12) 2 t11_12) H) (fun Q16 => Q16
  .normal (upd (upd (upd (upd (upd (upd e7 10 t10_11) 11 t11_12) 5 t11_12) 12 t11_12) 13 (e7 3)) 14 t14_13) H) Q14) Q) fun Q6 => cnd t9_5 (fun Q17 => Q17 .normal (upd e
  9 t9_5) H) (fun Q18 => Q18 (.exit 0) (upd e 9 t9_5) H) Q6
theorem h167_0 (S : Sys) (e : Fe) (H : Heap) (Q : Kx) : wpC S b167_0 e H Q = s167_0 S e H Q := by kernel_rfl
theorem l167_0 (S : Sys) {Q : Kx} (I : Nat → Fe → Heap → Prop) (d : Nat) {e0 : Fe} {H : Heap} (h0 : I d e0 H) (hr : ∀ (d : Nat) (e : Fe) (H : Heap), I d e H → s167_0 S e
  H (sq (fun e' H' => ∃ d', d' < d ∧ I d' e' H') Q)) : WL S b167_0 e0 H Q := WL_inv I d h0 fun d e H hi => (h167_0 S e H _).mpr (hr d e H hi)
theorem u167_0 (S : Sys) {Q : Kx} {e : Fe} {H : Heap} (h : s167_0 S e H (sq (fun e' H' => WL S b167_0 e' H' Q) Q)) : WL S b167_0 e H Q := WL_once ((h167_0 S e H _).mpr h)
def s167 (S : Sys) (a0 : Value) (H : Heap) (R : Kv) : Prop := run S (.lenL (.c a0)) [] H fun t7_1 H => jn (sq (fun e3 H => R (e3 3) H) (fn [(.t 2)] R)) fun Q2 => jn (blk
  0 Q2) fun Q4 => WL S b167_0 (upd (upd (upd (upd (upd (Env.get [a0]) 2 (.int .i64 0)) 3 (.int .i64 0)) 6 a0) 7 t7_1) 8 (.int .i64 0)) H Q4
theorem h167 (S : Sys) (a0 : Value) (H : Heap) (R : Kv) : wpC S k167.body (Env.get [a0]) H (fn [(.t 2)] R) = s167 S a0 H R := by kernel_rfl
theorem w167 {S : Sys} (hR : S.R 167 = none) (hF : S.F 167 = some k167) (a0 : Value) {H : Heap} {R : Kv} (h : s167 S a0 H R) : Wf S 167 [a0] H R := Wf_sh hR hF ((h167 S
  a0 H R).mpr h)
def s170 (S : Sys) (a0 a1 a2 : Value) (H : Heap) (R : Kv) : Prop := run S (.iad 1 (.c a0) (.c a1)) [] H fun t9_1 H => run S (.ld (.c t9_1)) [] H fun t10_2 H => run S
  (.nck (.c t10_2)) [] H fun t11_3 H => run S (.fad 0 (.c t11_3)) [] H fun t12_4 H => run S (.ld (.c t12_4)) [] H fun t13_5 H => run S (.iad 1 (.c a0) (.c a2)) [] H fun
  t16_6 H => run S (.ld (.c t16_6)) [] H fun t17_7 H => run S (.nck (.c t17_7)) [] H fun t18_8 H => run S (.fad 0 (.c t18_8)) [] H fun t19_9 H => run S (.ld (.c t19_9))
  [] H fun t20_10 H => run S (.iad 1 (.c a0) (.c a1)) [] H fun t24_11 H => run S (.ld (.c t24_11)) [] H fun t25_12 H => run S (.nck (.c t25_12)) [] H fun t26_13 H => run
  S (.fad 1 (.c t26_13)) [] H fun t27_14 H => run S (.ld (.c t27_14)) [] H fun t28_15 H => run S (.iad 1 (.c a0) (.c a2)) [] H fun t31_16 H => run S (.ld (.c t31_16)) []
  H fun t32_17 H => run S (.nck (.c t32_17)) [] H fun t33_18 H => run S (.fad 1 (.c t33_18)) [] H fun t34_19 H => run S (.ld (.c t34_19)) [] H fun t35_20 H => run S
  (.call 124 [(.c t13_5), (.c t20_10)]) [] H fun t21_21 H => ck (kop (.ld (.c t24_11)) [] H) t25_12 (ck (kop (.ld (.c t27_14)) [] H) t28_15 (ck (kop (.ld (.c t31_16)) []
  H) t32_17 (ck (kop (.ld (.c t34_19)) [] H) t35_20 (run S (.call 124 [(.c t28_15), (.c t35_20)]) [] H fun t36_22 H => run S (.bsl 3 2 [(.int .i64 0), (.int .i64 0)]
  [(0, (1, (.c t21_21))), (1, (1, (.c t36_22)))]) [] H fun t37_23 H => run S (.call 167 [(.c t37_23)]) [] H fun t38_24 H => run S (.bin .lss (.c t38_24) (.c (.int .i64
  0))) [] H fun t39_25 H => R t39_25 H))))
theorem h170 (S : Sys) (a0 a1 a2 : Value) (H : Heap) (R : Kv) : wpC S k170.body (Env.get [a0, a1, a2]) H (fn [(.t 6)] R) = s170 S a0 a1 a2 H R := by kernel_rfl
theorem w170 {S : Sys} (hR : S.R 170 = none) (hF : S.F 170 = some k170) (a0 a1 a2 : Value) {H : Heap} {R : Kv} (h : s170 S a0 a1 a2 H R) : Wf S 170 [a0, a1, a2] H R :=
  Wf_sh hR hF ((h170 S a0 a1 a2 H R).mpr h)
def s171 (S : Sys) (a0 : Value) (H : Heap) (R : Kv) : Prop := run S (.nck (.c a0)) [] H fun t6_1 H => run S (.ld (.c t6_1)) [] H fun t7_2 H => run S (.lenL (.c t7_2)) []
  H fun t8_3 H => run S (.bin .sub (.c t8_3) (.c (.int .i64 1))) [] H fun t9_4 H => run S (.nck (.c a0)) [] H fun t11_5 H => run S (.ld (.c t11_5)) [] H fun t12_6 H =>
  run S (.iad 1 (.c t12_6) (.c t9_4)) [] H fun t14_7 H => run S (.ld (.c t14_7)) [] H fun t15_8 H => run S (.nck (.c a0)) [] H fun t18_9 H => run S (.ld (.c t18_9)) [] H
  fun t19_10 H => run S (.slc 120 1 (.c t19_10) none (some (.c t9_4))) [] H fun t21_11 H => run S (.nck (.c a0)) [] H fun t22_12 H => run S (.st (.c t22_12) (.c t21_11))
  [] H fun _ H => run S (.mki 120 (.c t15_8)) [] H fun t24_13 H => R t24_13 H
theorem h171 (S : Sys) (a0 : Value) (H : Heap) (R : Kv) : wpC S k171.body (Env.get [a0]) H (fn [(.t 2)] R) = s171 S a0 H R := by kernel_rfl
theorem w171 {S : Sys} (hR : S.R 171 = none) (hF : S.F 171 = some k171) (a0 : Value) {H : Heap} {R : Kv} (h : s171 S a0 H R) : Wf S 171 [a0] H R := Wf_sh hR hF ((h171 S
  a0 H R).mpr h)
def s172 (S : Sys) (a0 a1 : Value) (H : Heap) (R : Kv) : Prop := run S (.tas 120 (.pointer none) true (.c a1)) [] H fun t8_1 H => run S (.xt (.c t8_1) 0) [] H fun t9_2 H
  => run S (.xt (.c t8_1) 1) [] H fun t10_3 H => cnd t10_3 (fun Q4 => run S (.nck (.c a0)) [] H fun t14_6 H => run S (.ld (.c t14_6)) [] H fun t15_7 H => run S (.bsl 120
  1 [(.pointer none)] [(0, (1, (.c t9_2)))]) [] H fun t17_8 H => run S (.app 120 1 8 (.c t15_7) (.c t17_8)) [] H fun t18_9 H => run S (.nck (.c a0)) [] H fun t19_10 H =>
  run S (.st (.c t19_10) (.c t18_9)) [] H fun _ H => Q4 .normal (upd (upd (upd (upd (upd (upd (upd (upd (upd (upd (upd (upd (upd (upd (upd (upd (Env.get [a0, a1]) 7 a1)
  8 t8_1) 6 t8_1) 9 t9_2) 10 t10_3) 4 t9_2) 5 t10_3) 11 t10_3) 12 a0) 13 a0) 14 t14_6) 15 t15_7) 16 t9_2) 17 t17_8) 18 t18_9) 19 t19_10) H) (fun Q5 => Q5 .normal (upd
  (upd (upd (upd (upd (upd (upd (upd (Env.get [a0, a1]) 7 a1) 8 t8_1) 6 t8_1) 9 t9_2) 10 t10_3) 4 t9_2) 5 t10_3) 11 t10_3) H) (fn [] R)
theorem h172 (S : Sys) (a0 a1 : Value) (H : Heap) (R : Kv) : wpC S k172.body (Env.get [a0, a1]) H (fn [] R) = s172 S a0 a1 H R := by kernel_rfl
theorem w172 {S : Sys} (hR : S.R 172 = none) (hF : S.F 172 = some k172) (a0 a1 : Value) {H : Heap} {R : Kv} (h : s172 S a0 a1 H R) : Wf S 172 [a0, a1] H R := Wf_sh hR hF
  ((h172 S a0 a1 H R).mpr h)
def s173 (S : Sys) (a0 a1 a2 : Value) (H : Heap) (R : Kv) : Prop := run S (.iad 1 (.c a0) (.c a2)) [] H fun t12_1 H => run S (.ld (.c t12_1)) [] H fun t13_2 H => run S
  (.iad 1 (.c a0) (.c a1)) [] H fun t16_3 H => run S (.ld (.c t16_3)) [] H fun t17_4 H => run S (.iad 1 (.c a0) (.c a1)) [] H fun t18_5 H => run S (.st (.c t18_5) (.c
  t13_2)) [] H fun _ H => run S (.iad 1 (.c a0) (.c a2)) [] H fun t19_6 H => run S (.st (.c t19_6) (.c t17_4)) [] H fun _ H => R (tup []) H
theorem h173 (S : Sys) (a0 a1 a2 : Value) (H : Heap) (R : Kv) : wpC S k173.body (Env.get [a0, a1, a2]) H (fn [] R) = s173 S a0 a1 a2 H R := by kernel_rfl
theorem w173 {S : Sys} (hR : S.R 173 = none) (hF : S.F 173 = some k173) (a0 a1 a2 : Value) {H : Heap} {R : Kv} (h : s173 S a0 a1 a2 H R) : Wf S 173 [a0, a1, a2] H R :=
  Wf_sh hR hF ((h173 S a0 a1 a2 H R).mpr h)
end Go.Proofs.Ytlboioplemlneaa.K
/- (no words more) -/
