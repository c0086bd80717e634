/- The functions as nested words with named values, each held against its code by the kernel. Printed by a program of this work (sh.py). -/
import Derived.Test.YtpcpelbbeofenaaKLowSh1
set_option maxRecDepth 100000
set_option linter.unusedVariables false
namespace Go.Proofs.Ytpcpelbbeofenaa.K
open Go Go.Proofs
def b67_1 : KCode := (.seq (.reg [(.op (some 22) none (.bin .lss (.t 21) (.t 20)))]) (.seq (.cond (.t 22) .skip (.exit 2)) (.seq (.block 3 (.seq (.reg [(.op (some 23)
  none (.mv (.t 21))), (.op (some 24) none (.iad 1 (.t 19) (.t 21))), (.op (some 25) none (.ld (.t 24))), (.op (some 7) none (.mv (.t 23))), (.op (some 8) none (.mv (.t
  25)))]) (.seq (.reg [(.op (some 26) none (.mv (.t 8))), (.op (some 27) none (.mv (.t 6))), (.op (some 28) none (.bin .eql (.t 26) (.t 27)))]) (.cond (.t 28) (.seq
  (.reg [(.op (some 29) none (.mv (.t 4))), (.op (some 30) none (.mv (.t 7))), (.op (some 31) none (.mv (.t 5))), (.op (some 32) none (.iad 1 (.t 29) (.t 30))), (.op
  none none (.st (.t 32) (.t 31)))]) (.reg [(.op (some 33) none (.mv (.t 5))), (.op (some 34) none (.bin .add (.t 33) (.c (.int .i64 1)))), (.op (some 5) none (.mv (.t
  34)))])) .skip)))) (.reg [(.op (some 35) none (.bin .add (.t 21) (.c (.int .i64 1)))), (.op (some 21) none (.mv (.t 35)))]))))
def s67_1 (S : Sys) (e : Fe) (H : Heap) (Q : Kx) : Prop := run S (.bin .lss (.c (e 21)) (.c (e 20))) [] H fun t22_26 H => jn (sq (fun e28 H => jn (sq (fun e30 H => run S
  (.bin .add (.c (e30 21)) (.c (.int .i64 1))) [] H fun t35_31 H => Q .normal (upd (upd e30 35 t35_31) 21 t35_31) H) Q) fun Q29 => run S (.iad 1 (.c (e28 19)) (.c (e28
  21))) [] H fun t24_32 H => run S (.ld (.c t24_32)) [] H fun t25_33 H => run S (.bin .eql (.c t25_33) (.c (e28 6))) [] H fun t28_34 H => jn (blk 3 Q29) fun Q35 => cnd
  t28_34 (fun Q36 => run S (.iad 1 (.c (e28 4)) (.c (e28 21))) [] H fun t32_38 H => run S (.st (.c t32_38) (.c (e28 5))) [] H fun _ H => run S (.bin .add (.c (e28 5))
  (.c (.int .i64 1))) [] H fun t34_39 H => Q36 .normal (upd (upd (upd (upd (upd (upd (upd (upd (upd (upd (upd (upd (upd (upd (upd e28 23 (e28 21)) 24 t24_32) 25 t25_33)
  7 (e28 21)) 8 t25_33) 26 t25_33) 27 (e28 6)) 28 t28_34) 29 (e28 4)) 30 (e28 21)) 31 (e28 5)) 32 t32_38) 33 (e28 5)) 34 t34_39) 5 t34_39) H) (fun Q37 => Q37 .normal
  (upd (upd (upd (upd (upd (upd (upd (upd e28 23 (e28 21)) 24 t24_32) 25 t25_33) 7 (e28 21)) 8 t25_33) 26 t25_33) 27 (e28 6)) 28 t28_34) H) Q35) Q) fun Q27 => cnd t22_26
  (fun Q40 => Q40 .normal (upd e 22 t22_26) H) (fun Q41 => Q41 (.exit 2) (upd e 22 t22_26) H) Q27
theorem h67_1 (S : Sys) (e : Fe) (H : Heap) (Q : Kx) : wpC S b67_1 e H Q = s67_1 S e H Q := by kernel_rfl
theorem l67_1 (S : Sys) {Q : Kx} (I : Nat → Fe → Heap → Prop) (d : Nat) {e0 : Fe} {H : Heap} (h0 : I d e0 H) (hr : ∀ (d : Nat) (e : Fe) (H : Heap), I d e H → s67_1 S e H
  (sq (fun e' H' => ∃ d', d' < d ∧ I d' e' H') Q)) : WL S b67_1 e0 H Q := WL_inv I d h0 fun d e H hi => (h67_1 S e H _).mpr (hr d e H hi)
theorem u67_1 (S : Sys) {Q : Kx} {e : Fe} {H : Heap} (h : s67_1 S e H (sq (fun e' H' => WL S b67_1 e' H' Q) Q)) : WL S b67_1 e H Q := WL_once ((h67_1 S e H _).mpr h)
def b67_0 : KCode := (.seq (.seq (.reg [(.op (some 15) none (.mv (.t 6))), (.op (some 16) none (.bin .leq (.t 15) (.c (.int .i64 11))))]) (.cond (.t 16) .skip (.exit
  0))) (.seq (.block 1 (.seq (.seq (.reg [(.op (some 19) none (.mv (.t 0))), (.op (some 20) none (.lenL (.t 19))), (.op (some 21) none (.mv (.c (.int .i64 0))))])
  (.block 2 (.loop (.seq (.reg [(.op (some 22) none (.bin .lss (.t 21) (.t 20)))]) (.seq (.cond (.t 22) .skip (.exit 2)) (.seq (.block 3 (.seq (.reg [(.op (some 23) none
  (.mv (.t 21))), (.op (some 24) none (.iad 1 (.t 19) (.t 21))), (.op (some 25) none (.ld (.t 24))), (.op (some 7) none (.mv (.t 23))), (.op (some 8) none (.mv (.t
  25)))]) (.seq (.reg [(.op (some 26) none (.mv (.t 8))), (.op (some 27) none (.mv (.t 6))), (.op (some 28) none (.bin .eql (.t 26) (.t 27)))]) (.cond (.t 28) (.seq
  (.reg [(.op (some 29) none (.mv (.t 4))), (.op (some 30) none (.mv (.t 7))), (.op (some 31) none (.mv (.t 5))), (.op (some 32) none (.iad 1 (.t 29) (.t 30))), (.op
  none none (.st (.t 32) (.t 31)))]) (.reg [(.op (some 33) none (.mv (.t 5))), (.op (some 34) none (.bin .add (.t 33) (.c (.int .i64 1)))), (.op (some 5) none (.mv (.t
  34)))])) .skip)))) (.reg [(.op (some 35) none (.bin .add (.t 21) (.c (.int .i64 1)))), (.op (some 21) none (.mv (.t 35)))]))))))) (.reg [(.op (some 36) none (.mv (.t
  5))), (.op (some 37) none (.bin .shl (.t 36) (.c (.int .u64 1)))), (.op (some 5) none (.mv (.t 37)))]))) (.reg [(.op (some 17) none (.mv (.t 6))), (.op (some 18) none
  (.bin .add (.t 17) (.c (.int .i64 1)))), (.op (some 6) none (.mv (.t 18)))])))
def s67_0 (S : Sys) (e : Fe) (H : Heap) (Q : Kx) : Prop := run S (.bin .leq (.c (e 6)) (.c (.int .i64 11))) [] H fun t16_12 H => jn (sq (fun e14 H => jn (sq (fun e16 H
  => run S (.bin .add (.c (e16 6)) (.c (.int .i64 1))) [] H fun t18_17 H => Q .normal (upd (upd (upd e16 17 (e16 6)) 18 t18_17) 6 t18_17) H) Q) fun Q15 => run S (.lenL
  (.c (e14 0))) [] H fun t20_18 H => jn (blk 1 Q15) fun Q19 => jn (sq (fun e21 H => run S (.bin .shl (.c (e21 5)) (.c (.int .u64 1))) [] H fun t37_22 H => Q19 .normal
  (upd (upd (upd e21 36 (e21 5)) 37 t37_22) 5 t37_22) H) Q19) fun Q20 => jn (blk 2 Q20) fun Q23 => WL S b67_1 (upd (upd (upd e14 19 (e14 0)) 20 t20_18) 21 (.int .i64 0))
  H Q23) Q) fun Q13 => cnd t16_12 (fun Q24 => Q24 .normal (upd (upd e 15 (e 6)) 16 t16_12) H) (fun Q25 => Q25 (.exit 0) (upd (upd e 15 (e 6)) 16 t16_12) H) Q13
theorem h67_0 (S : Sys) (e : Fe) (H : Heap) (Q : Kx) : wpC S b67_0 e H Q = s67_0 S e H Q := by kernel_rfl
theorem l67_0 (S : Sys) {Q : Kx} (I : Nat → Fe → Heap → Prop) (d : Nat) {e0 : Fe} {H : Heap} (h0 : I d e0 H) (hr : ∀ (d : Nat) (e : Fe) (H : Heap), I d e H → s67_0 S e H
  (sq (fun e' H' => ∃ d', d' < d ∧ I d' e' H') Q)) : WL S b67_0 e0 H Q := WL_inv I d h0 fun d e H hi => (h67_0 S e H _).mpr (hr d e H hi)
theorem u67_0 (S : Sys) {Q : Kx} {e : Fe} {H : Heap} (h : s67_0 S e H (sq (fun e' H' => WL S b67_0 e' H' Q) Q)) : WL S b67_0 e H Q := WL_once ((h67_0 S e H _).mpr h)
def s67 (S : Sys) (a0 : Value) (H : Heap) (R : Kv) : Prop := run S (.call 68 [(.c a0)]) [] H fun t10_1 H => run S (.un .not (.c t10_1)) [] H fun t11_2 H => jn (sq (fun
  e4 H => run S (.lenL (.c (e4 0))) [] H fun t13_5 H => run S (.mks 3 [(.int .i64 0)] 8 (.c t13_5) (.c t13_5)) [] H fun t14_6 H => jn (sq (fun e8 H => R (tup [(e8 4),
  (.bool true)]) H) (fn [(.t 2), (.t 3)] R)) fun Q7 => jn (blk 0 Q7) fun Q9 => WL S b67_0 (upd (upd (upd (upd (upd (upd e4 12 (e4 0)) 13 t13_5) 14 t14_6) 4 t14_6) 5
  (.int .i64 0)) 6 (.int .i64 1)) H Q9) (fn [(.t 2), (.t 3)] R)) fun Q3 => cnd t11_2 (fun Q10 => Q10 .ret (upd (upd (upd (upd (upd (upd (upd (Env.get [a0]) 2 (.slice
  none 0 0)) 3 (.bool false)) 9 a0) 10 t10_1) 11 t11_2) 2 (.slice none 0 0)) 3 (.bool false)) H) (fun Q11 => Q11 .normal (upd (upd (upd (upd (upd (Env.get [a0]) 2
  (.slice none 0 0)) 3 (.bool false)) 9 a0) 10 t10_1) 11 t11_2) H) Q3
theorem h67 (S : Sys) (a0 : Value) (H : Heap) (R : Kv) : wpC S k67.body (Env.get [a0]) H (fn [(.t 2), (.t 3)] R) = s67 S a0 H R := by kernel_rfl
theorem w67 {S : Sys} (hR : S.R 67 = none) (hF : S.F 67 = some k67) (a0 : Value) {H : Heap} {R : Kv} (h : s67 S a0 H R) : Wf S 67 [a0] H R := Wf_sh hR hF ((h67 S a0 H
  R).mpr h)
def b68_0 : KCode := (.seq (.reg [(.op (some 14) none (.bin .lss (.t 13) (.t 12)))]) (.seq (.cond (.t 14) .skip (.exit 0)) (.seq (.block 1 (.seq (.reg [(.op (some 15)
  none (.iad 1 (.t 11) (.t 13))), (.op (some 16) none (.ld (.t 15))), (.op (some 7) none (.mv (.t 16)))]) (.seq (.reg [(.op (some 17) none (.mv (.t 7))), (.op (some 18)
  none (.bin .gtr (.t 17) (.c (.int .i64 0))))]) (.cond (.t 18) (.seq (.reg [(.op (some 19) none (.mv (.t 3))), (.op (some 20) none (.mv (.t 7))), (.op (some 21) none
  (.bin .sub (.c (.int .i64 11)) (.t 20))), (.op (some 22) none (.bin .shl (.c (.int .i64 1)) (.t 21))), (.op (some 23) none (.bin .sub (.t 19) (.t 22))), (.op (some 3)
  none (.mv (.t 23)))]) (.seq (.reg [(.op (some 24) none (.mv (.t 4))), (.op (some 25) none (.bin .add (.t 24) (.c (.int .i64 1)))), (.op (some 4) none (.mv (.t 25)))])
  (.reg [(.op (some 26) none (.mv (.t 7))), (.op (some 27) none (.bin .eql (.t 26) (.c (.int .i64 1)))), (.op (some 5) none (.mv (.t 27)))]))) .skip)))) (.reg [(.op
  (some 28) none (.bin .add (.t 13) (.c (.int .i64 1)))), (.op (some 13) none (.mv (.t 28)))]))))
def s68_0 (S : Sys) (e : Fe) (H : Heap) (Q : Kx) : Prop := run S (.bin .lss (.c (e 13)) (.c (e 12))) [] H fun t14_18 H => jn (sq (fun e20 H => jn (sq (fun e22 H => run S
  (.bin .add (.c (e22 13)) (.c (.int .i64 1))) [] H fun t28_23 H => Q .normal (upd (upd e22 28 t28_23) 13 t28_23) H) Q) fun Q21 => run S (.iad 1 (.c (e20 11)) (.c (e20
  13))) [] H fun t15_24 H => run S (.ld (.c t15_24)) [] H fun t16_25 H => run S (.bin .gtr (.c t16_25) (.c (.int .i64 0))) [] H fun t18_26 H => jn (blk 1 Q21) fun Q27 =>
  cnd t18_26 (fun Q28 => run S (.bin .sub (.c (.int .i64 11)) (.c t16_25)) [] H fun t21_30 H => run S (.bin .shl (.c (.int .i64 1)) (.c t21_30)) [] H fun t22_31 H => run
  S (.bin .sub (.c (e20 3)) (.c t22_31)) [] H fun t23_32 H => run S (.bin .add (.c (e20 4)) (.c (.int .i64 1))) [] H fun t25_33 H => run S (.bin .eql (.c t16_25) (.c
  (.int .i64 1))) [] H fun t27_34 H => Q28 .normal (upd (upd (upd (upd (upd (upd (upd (upd (upd (upd (upd (upd (upd (upd (upd (upd (upd e20 15 t15_24) 16 t16_25) 7
  t16_25) 17 t16_25) 18 t18_26) 19 (e20 3)) 20 t16_25) 21 t21_30) 22 t22_31) 23 t23_32) 3 t23_32) 24 (e20 4)) 25 t25_33) 4 t25_33) 26 t16_25) 27 t27_34) 5 t27_34) H)
  (fun Q29 => Q29 .normal (upd (upd (upd (upd (upd e20 15 t15_24) 16 t16_25) 7 t16_25) 17 t16_25) 18 t18_26) H) Q27) Q) fun Q19 => cnd t14_18 (fun Q35 => Q35 .normal
  (upd e 14 t14_18) H) (fun Q36 => Q36 (.exit 0) (upd e 14 t14_18) H) Q19
theorem h68_0 (S : Sys) (e : Fe) (H : Heap) (Q : Kx) : wpC S b68_0 e H Q = s68_0 S e H Q := by kernel_rfl
theorem l68_0 (S : Sys) {Q : Kx} (I : Nat → Fe → Heap → Prop) (d : Nat) {e0 : Fe} {H : Heap} (h0 : I d e0 H) (hr : ∀ (d : Nat) (e : Fe) (H : Heap), I d e H → s68_0 S e H
  (sq (fun e' H' => ∃ d', d' < d ∧ I d' e' H') Q)) : WL S b68_0 e0 H Q := WL_inv I d h0 fun d e H hi => (h68_0 S e H _).mpr (hr d e H hi)
theorem u68_0 (S : Sys) {Q : Kx} {e : Fe} {H : Heap} (h : s68_0 S e H (sq (fun e' H' => WL S b68_0 e' H' Q) Q)) : WL S b68_0 e H Q := WL_once ((h68_0 S e H _).mpr h)
def s68 (S : Sys) (a0 : Value) (H : Heap) (R : Kv) : Prop := run S (.call 130 [(.c a0)]) [] H fun t9_1 H => run S (.un .not (.c t9_1)) [] H fun t10_2 H => jn (sq (fun e4
  H => run S (.lenL (.c (e4 0))) [] H fun t12_5 H => jn (sq (fun e7 H => run S (.bin .eql (.c (e7 3)) (.c (.int .i64 0))) [] H fun t30_8 H => gd t30_8 false (run S (.mv
  (.c (e7 4))) [] H) H fun t32_9 H => gd t30_8 false (run S (.bin .eql (.c t32_9) (.c (.int .i64 1))) [] H) H fun t33_10 H => gd t30_8 false (run S (.mv (.c t33_10)) []
  H) H fun t34_11 H => gd t34_11 true (run S (.mv (.c (e7 5))) [] H) H fun t35_12 H => gd t30_8 false (run S (.pick (.c t34_11) (.c t35_12) (.c (.bool false))) [] H) H
  fun t36_13 H => run S (.pick (.c t30_8) (.c (.bool true)) (.c t36_13)) [] H fun t37_14 H => R t37_14 H) (fn [(.t 2)] R)) fun Q6 => jn (blk 0 Q6) fun Q15 => WL S b68_0
  (upd (upd (upd (upd (upd (upd e4 3 (.int .i64 2048)) 4 (.int .i64 0)) 5 (.bool false)) 11 (e4 0)) 12 t12_5) 13 (.int .i64 0)) H Q15) (fn [(.t 2)] R)) fun Q3 => cnd
  t10_2 (fun Q16 => Q16 .ret (upd (upd (upd (upd (upd (Env.get [a0]) 2 (.bool false)) 8 a0) 9 t9_1) 10 t10_2) 2 (.bool false)) H) (fun Q17 => Q17 .normal (upd (upd (upd
  (upd (Env.get [a0]) 2 (.bool false)) 8 a0) 9 t9_1) 10 t10_2) H) Q3
theorem h68 (S : Sys) (a0 : Value) (H : Heap) (R : Kv) : wpC S k68.body (Env.get [a0]) H (fn [(.t 2)] R) = s68 S a0 H R := by kernel_rfl
theorem w68 {S : Sys} (hR : S.R 68 = none) (hF : S.F 68 = some k68) (a0 : Value) {H : Heap} {R : Kv} (h : s68 S a0 H R) : Wf S 68 [a0] H R := Wf_sh hR hF ((h68 S a0 H
  R).mpr h)
def b69_0 : KCode := (.seq (.reg [(.op (some 14) none (.bin .lss (.t 13) (.t 12)))]) (.seq (.cond (.t 14) .skip (.exit 0)) (.seq (.block 1 (.seq (.reg [(.op (some 15)
  none (.mv (.t 13))), (.op (some 5) none (.mv (.t 15)))]) (.seq (.reg [(.op (some 16) none (.mv (.t 0))), (.op (some 17) none (.mv (.t 5))), (.op (some 18) none (.iad 1
  (.t 16) (.t 17))), (.op (some 19) none (.ld (.t 18))), (.op (some 20) none (.mv (.t 1))), (.op (some 21) none (.mv (.t 5))), (.op (some 22) none (.iad 1 (.t 20) (.t
  21))), (.op (some 23) none (.ld (.t 22))), (.op (some 24) none (.bin .neq (.t 19) (.t 23)))]) (.cond (.t 24) (.seq (.reg [(.op (some 4) none (.mv (.c (.bool
  false))))]) .ret) .skip)))) (.reg [(.op (some 25) none (.bin .add (.t 13) (.c (.int .i64 1)))), (.op (some 13) none (.mv (.t 25)))]))))
def s69_0 (S : Sys) (e : Fe) (H : Heap) (Q : Kx) : Prop := run S (.bin .lss (.c (e 13)) (.c (e 12))) [] H fun t14_12 H => jn (sq (fun e14 H => jn (sq (fun e16 H => run S
  (.bin .add (.c (e16 13)) (.c (.int .i64 1))) [] H fun t25_17 H => Q .normal (upd (upd e16 25 t25_17) 13 t25_17) H) Q) fun Q15 => run S (.iad 1 (.c (e14 0)) (.c (e14
  13))) [] H fun t18_18 H => run S (.ld (.c t18_18)) [] H fun t19_19 H => run S (.iad 1 (.c (e14 1)) (.c (e14 13))) [] H fun t22_20 H => run S (.ld (.c t22_20)) [] H fun
  t23_21 H => run S (.bin .neq (.c t19_19) (.c t23_21)) [] H fun t24_22 H => jn (blk 1 Q15) fun Q23 => cnd t24_22 (fun Q24 => Q24 .ret (upd (upd (upd (upd (upd (upd (upd
  (upd (upd (upd (upd (upd e14 15 (e14 13)) 5 (e14 13)) 16 (e14 0)) 17 (e14 13)) 18 t18_18) 19 t19_19) 20 (e14 1)) 21 (e14 13)) 22 t22_20) 23 t23_21) 24 t24_22) 4 (.bool
  false)) H) (fun Q25 => Q25 .normal (upd (upd (upd (upd (upd (upd (upd (upd (upd (upd (upd e14 15 (e14 13)) 5 (e14 13)) 16 (e14 0)) 17 (e14 13)) 18 t18_18) 19 t19_19)
  20 (e14 1)) 21 (e14 13)) 22 t22_20) 23 t23_21) 24 t24_22) H) Q23) Q) fun Q13 => cnd t14_12 (fun Q26 => Q26 .normal (upd e 14 t14_12) H) (fun Q27 => Q27 (.exit 0) (upd
  e 14 t14_12) H) Q13
theorem h69_0 (S : Sys) (e : Fe) (H : Heap) (Q : Kx) : wpC S b69_0 e H Q = s69_0 S e H Q := by kernel_rfl
theorem l69_0 (S : Sys) {Q : Kx} (I : Nat → Fe → Heap → Prop) (d : Nat) {e0 : Fe} {H : Heap} (h0 : I d e0 H) (hr : ∀ (d : Nat) (e : Fe) (H : Heap), I d e H → s69_0 S e H
  (sq (fun e' H' => ∃ d', d' < d ∧ I d' e' H') Q)) : WL S b69_0 e0 H Q := WL_inv I d h0 fun d e H hi => (h69_0 S e H _).mpr (hr d e H hi)
theorem u69_0 (S : Sys) {Q : Kx} {e : Fe} {H : Heap} (h : s69_0 S e H (sq (fun e' H' => WL S b69_0 e' H' Q) Q)) : WL S b69_0 e H Q := WL_once ((h69_0 S e H _).mpr h)
def s69 (S : Sys) (a0 a1 : Value) (H : Heap) (R : Kv) : Prop := run S (.lenL (.c a0)) [] H fun t7_1 H => run S (.lenL (.c a1)) [] H fun t9_2 H => run S (.bin .neq (.c
  t7_1) (.c t9_2)) [] H fun t10_3 H => jn (sq (fun e5 H => run S (.lenL (.c (e5 0))) [] H fun t12_6 H => jn (sq (fun e8 H => R (.bool true) H) (fn [(.t 4)] R)) fun Q7 =>
  jn (blk 0 Q7) fun Q9 => WL S b69_0 (upd (upd (upd e5 11 (e5 0)) 12 t12_6) 13 (.int .i64 0)) H Q9) (fn [(.t 4)] R)) fun Q4 => cnd t10_3 (fun Q10 => Q10 .ret (upd (upd
  (upd (upd (upd (upd (upd (Env.get [a0, a1]) 4 (.bool false)) 6 a0) 7 t7_1) 8 a1) 9 t9_2) 10 t10_3) 4 (.bool false)) H) (fun Q11 => Q11 .normal (upd (upd (upd (upd (upd
  (upd (Env.get [a0, a1]) 4 (.bool false)) 6 a0) 7 t7_1) 8 a1) 9 t9_2) 10 t10_3) H) Q4
theorem h69 (S : Sys) (a0 a1 : Value) (H : Heap) (R : Kv) : wpC S k69.body (Env.get [a0, a1]) H (fn [(.t 4)] R) = s69 S a0 a1 H R := by kernel_rfl
theorem w69 {S : Sys} (hR : S.R 69 = none) (hF : S.F 69 = some k69) (a0 a1 : Value) {H : Heap} {R : Kv} (h : s69 S a0 a1 H R) : Wf S 69 [a0, a1] H R := Wf_sh hR hF ((h69
  S a0 a1 H R).mpr h)
def b70_1 : KCode := (.seq (.seq (.reg [(.op (some 21) none (.mv (.t 6))), (.op (some 22) none (.mv (.t 0))), (.op (some 23) none (.lenL (.t 22))), (.op (some 24) none
  (.bin .lss (.t 21) (.t 23)))]) (.cond (.t 24) .skip (.exit 2))) (.seq (.block 3 (.seq (.reg [(.op (some 27) none (.mv (.t 0))), (.op (some 28) none (.mv (.t 6))), (.op
  (some 29) none (.iad 1 (.t 27) (.t 28))), (.op (some 30) none (.ld (.t 29))), (.op (some 31) none (.bin .gtr (.t 30) (.c (.int .i64 0)))), (.op (some 32) none (.mv (.t
  31))), (.op (some 33) (some (32, true)) (.mv (.t 0))), (.op (some 34) (some (32, true)) (.mv (.t 6))), (.op (some 35) (some (32, true)) (.iad 1 (.t 33) (.t 34))), (.op
  (some 36) (some (32, true)) (.ld (.t 35))), (.op (some 37) (some (32, true)) (.mv (.t 0))), (.op (some 38) (some (32, true)) (.mv (.t 4))), (.op (some 39) (some (32,
  true)) (.iad 1 (.t 37) (.t 38))), (.op (some 40) (some (32, true)) (.ld (.t 39))), (.op (some 41) (some (32, true)) (.bin .lss (.t 36) (.t 40))), (.op (some 42) (some
  (32, true)) (.mv (.t 41))), (.op (some 43) (some (42, false)) (.mv (.t 0))), (.op (some 44) (some (42, false)) (.mv (.t 6))), (.op (some 45) (some (42, false)) (.iad 1
  (.t 43) (.t 44))), (.op (some 46) (some (42, false)) (.ld (.t 45))), (.op (some 47) (some (42, false)) (.mv (.t 0))), (.op (some 48) (some (42, false)) (.mv (.t 4))),
  (.op (some 49) (some (42, false)) (.iad 1 (.t 47) (.t 48))), (.op (some 50) (some (42, false)) (.ld (.t 49))), (.op (some 51) (some (42, false)) (.bin .eql (.t 46) (.t
  50))), (.op (some 52) (some (42, false)) (.mv (.t 51))), (.op (some 53) (some (52, true)) (.mv (.t 6))), (.op (some 54) (some (52, true)) (.mv (.t 4))), (.op (some 55)
  (some (52, true)) (.bin .lss (.t 53) (.t 54))), (.op (some 56) (some (42, false)) (.pick (.t 52) (.t 55) (.c (.bool false)))), (.op (some 57) (some (32, true)) (.pick
  (.t 42) (.c (.bool true)) (.t 56))), (.op (some 58) none (.pick (.t 32) (.t 57) (.c (.bool false))))]) (.cond (.t 58) (.reg [(.op (some 59) none (.mv (.t 5))), (.op
  (some 60) none (.mv (.t 0))), (.op (some 61) none (.mv (.t 6))), (.op (some 62) none (.iad 1 (.t 60) (.t 61))), (.op (some 63) none (.ld (.t 62))), (.op (some 64) none
  (.bin .sub (.c (.int .i64 11)) (.t 63))), (.op (some 65) none (.call 95 [(.t 64)])), (.op (some 66) none (.bin .add (.t 59) (.t 65))), (.op (some 5) none (.mv (.t
  66)))]) .skip))) (.reg [(.op (some 25) none (.mv (.t 6))), (.op (some 26) none (.bin .add (.t 25) (.c (.int .i64 1)))), (.op (some 6) none (.mv (.t 26)))])))
def s70_1 (S : Sys) (e : Fe) (H : Heap) (Q : Kx) : Prop := run S (.lenL (.c (e 0))) [] H fun t23_32 H => run S (.bin .lss (.c (e 6)) (.c t23_32)) [] H fun t24_33 H => jn
  (sq (fun e35 H => jn (sq (fun e37 H => run S (.bin .add (.c (e37 6)) (.c (.int .i64 1))) [] H fun t26_38 H => Q .normal (upd (upd (upd e37 25 (e37 6)) 26 t26_38) 6
  t26_38) H) Q) fun Q36 => run S (.iad 1 (.c (e35 0)) (.c (e35 6))) [] H fun t29_39 H => run S (.ld (.c t29_39)) [] H fun t30_40 H => run S (.bin .gtr (.c t30_40) (.c
  (.int .i64 0))) [] H fun t31_41 H => gd t31_41 true (run S (.mv (.c (e35 0))) [] H) H fun t33_42 H => gd t31_41 true (run S (.mv (.c (e35 6))) [] H) H fun t34_43 H =>
  gd t31_41 true (run S (.iad 1 (.c t33_42) (.c t34_43)) [] H) H fun t35_44 H => gd t31_41 true (run S (.ld (.c t35_44)) [] H) H fun t36_45 H => gd t31_41 true (run S
  (.mv (.c (e35 0))) [] H) H fun t37_46 H => gd t31_41 true (run S (.mv (.c (e35 4))) [] H) H fun t38_47 H => gd t31_41 true (run S (.iad 1 (.c t37_46) (.c t38_47)) []
  H) H fun t39_48 H => gd t31_41 true (run S (.ld (.c t39_48)) [] H) H fun t40_49 H => gd t31_41 true (run S (.bin .lss (.c t36_45) (.c t40_49)) [] H) H fun t41_50 H =>
  gd t31_41 true (run S (.mv (.c t41_50)) [] H) H fun t42_51 H => gd t42_51 false (run S (.mv (.c (e35 0))) [] H) H fun t43_52 H => gd t42_51 false (run S (.mv (.c (e35
  6))) [] H) H fun t44_53 H => gd t42_51 false (run S (.iad 1 (.c t43_52) (.c t44_53)) [] H) H fun t45_54 H => gd t42_51 false (run S (.ld (.c t45_54)) [] H) H fun
  t46_55 H => gd t42_51 false (run S (.mv (.c (e35 0))) [] H) H fun t47_56 H => gd t42_51 false (run S (.mv (.c (e35 4))) [] H) H fun t48_57 H => gd t42_51 false (run S
  (.iad 1 (.c t47_56) (.c t48_57)) [] H) H fun t49_58 H => gd t42_51 false (run S (.ld (.c t49_58)) [] H) H fun t50_59 H => gd t42_51 false (run S (.bin .eql (.c t46_55)
  (.c t50_59)) [] H) H fun t51_60 H => gd t42_51 false (run S (.mv (.c t51_60)) [] H) H fun t52_61 H => gd t52_61 true (run S (.mv (.c (e35 6))) [] H) H fun t53_62 H =>
  gd t52_61 true (run S (.mv (.c (e35 4))) [] H) H fun t54_63 H => gd t52_61 true (run S (.bin .lss (.c t53_62) (.c t54_63)) [] H) H fun t55_64 H => gd t42_51 false (run
  S (.pick (.c t52_61) (.c t55_64) (.c (.bool false))) [] H) H fun t56_65 H => gd t31_41 true (run S (.pick (.c t42_51) (.c (.bool true)) (.c t56_65)) [] H) H fun t57_66
  H => run S (.pick (.c t31_41) (.c t57_66) (.c (.bool false))) [] H fun t58_67 H => jn (blk 3 Q36) fun Q68 => cnd t58_67 (fun Q69 => run S (.iad 1 (.c (e35 0)) (.c (e35
  6))) [] H fun t62_71 H => run S (.ld (.c t62_71)) [] H fun t63_72 H => run S (.bin .sub (.c (.int .i64 11)) (.c t63_72)) [] H fun t64_73 H => run S (.call 95 [(.c
  t64_73)]) [] H fun t65_74 H => run S (.bin .add (.c (e35 5)) (.c t65_74)) [] H fun t66_75 H => Q69 .normal (upd (upd (upd (upd (upd (upd (upd (upd (upd (upd (upd (upd
  (upd (upd (upd (upd (upd (upd (upd (upd (upd (upd (upd (upd (upd (upd (upd (upd (upd (upd (upd (upd (upd (upd (upd (upd (upd (upd (upd (upd (upd e35 27 (e35 0)) 28
  (e35 6)) 29 t29_39) 30 t30_40) 31 t31_41) 32 t31_41) 33 t33_42) 34 t34_43) 35 t35_44) 36 t36_45) 37 t37_46) 38 t38_47) 39 t39_48) 40 t40_49) 41 t41_50) 42 t42_51) 43
  t43_52) 44 t44_53) 45 t45_54) 46 t46_55) 47 t47_56) 48 t48_57) 49 t49_58) 50 t50_59) 51 t51_60) 52 t52_61) 53 t53_62) 54 t54_63) 55 t55_64) 56 t56_65) 57 t57_66) 58
  t58_67) 59 (e35 5)) 60 (e35 0)) 61 (e35 6)) 62 t62_71) 63 t63_72) 64 t64_73) 65 t65_74) 66 t66_75) 5 t66_75) H) (fun Q70 => Q70 .normal (upd (upd (upd (upd (upd (upd
  (upd (upd (upd (upd (upd (upd (upd (upd (upd (upd (upd (upd (upd (upd (upd (upd (upd (upd (upd (upd (upd (upd (upd (upd (upd (upd e35 27 (e35 0)) 28 (e35 6)) 29
  t29_39) 30 t30_40) 31 t31_41) 32 t31_41) 33 t33_42) 34 t34_43) 35 t35_44) 36 t36_45) 37 t37_46) 38 t38_47) 39 t39_48) 40 t40_49) 41 t41_50) 42 t42_51) 43 t43_52) 44
  t44_53) 45 t45_54) 46 t46_55) 47 t47_56) 48 t48_57) 49 t49_58) 50 t50_59) 51 t51_60) 52 t52_61) 53 t53_62) 54 t54_63) 55 t55_64) 56 t56_65) 57 t57_66) 58 t58_67) H)
  Q68) Q) fun Q34 => cnd t24_33 (fun Q76 => Q76 .normal (upd (upd (upd (upd e 21 (e 6)) 22 (e 0)) 23 t23_32) 24 t24_33) H) (fun Q77 => Q77 (.exit 2) (upd (upd (upd (upd
  e 21 (e 6)) 22 (e 0)) 23 t23_32) 24 t24_33) H) Q34
theorem h70_1 (S : Sys) (e : Fe) (H : Heap) (Q : Kx) : wpC S b70_1 e H Q = s70_1 S e H Q := by kernel_rfl
theorem l70_1 (S : Sys) {Q : Kx} (I : Nat → Fe → Heap → Prop) (d : Nat) {e0 : Fe} {H : Heap} (h0 : I d e0 H) (hr : ∀ (d : Nat) (e : Fe) (H : Heap), I d e H → s70_1 S e H
  (sq (fun e' H' => ∃ d', d' < d ∧ I d' e' H') Q)) : WL S b70_1 e0 H Q := WL_inv I d h0 fun d e H hi => (h70_1 S e H _).mpr (hr d e H hi)
theorem u70_1 (S : Sys) {Q : Kx} {e : Fe} {H : Heap} (h : s70_1 S e H (sq (fun e' H' => WL S b70_1 e' H' Q) Q)) : WL S b70_1 e H Q := WL_once ((h70_1 S e H _).mpr h)
def b70_0 : KCode := (.seq (.seq (.reg [(.op (some 10) none (.mv (.t 4))), (.op (some 11) none (.mv (.t 0))), (.op (some 12) none (.lenL (.t 11))), (.op (some 13) none
  (.bin .lss (.t 10) (.t 12)))]) (.cond (.t 13) .skip (.exit 0))) (.seq (.block 1 (.seq (.seq (.reg [(.op (some 16) none (.mv (.t 0))), (.op (some 17) none (.mv (.t
  4))), (.op (some 18) none (.iad 1 (.t 16) (.t 17))), (.op (some 19) none (.ld (.t 18))), (.op (some 20) none (.bin .eql (.t 19) (.c (.int .i64 0))))]) (.cond (.t 20)
  (.exit 1) .skip)) (.seq (.reg [(.op (some 5) none (.mv (.c (.int .i64 0))))]) (.seq (.seq (.reg [(.op (some 6) none (.mv (.c (.int .i64 0))))]) (.block 2 (.loop (.seq
  (.seq (.reg [(.op (some 21) none (.mv (.t 6))), (.op (some 22) none (.mv (.t 0))), (.op (some 23) none (.lenL (.t 22))), (.op (some 24) none (.bin .lss (.t 21) (.t
  23)))]) (.cond (.t 24) .skip (.exit 2))) (.seq (.block 3 (.seq (.reg [(.op (some 27) none (.mv (.t 0))), (.op (some 28) none (.mv (.t 6))), (.op (some 29) none (.iad 1
  (.t 27) (.t 28))), (.op (some 30) none (.ld (.t 29))), (.op (some 31) none (.bin .gtr (.t 30) (.c (.int .i64 0)))), (.op (some 32) none (.mv (.t 31))), (.op (some 33)
  (some (32, true)) (.mv (.t 0))), (.op (some 34) (some (32, true)) (.mv (.t 6))), (.op (some 35) (some (32, true)) (.iad 1 (.t 33) (.t 34))), (.op (some 36) (some (32,
  true)) (.ld (.t 35))), (.op (some 37) (some (32, true)) (.mv (.t 0))), (.op (some 38) (some (32, true)) (.mv (.t 4))), (.op (some 39) (some (32, true)) (.iad 1 (.t 37)
  (.t 38))), (.op (some 40) (some (32, true)) (.ld (.t 39))), (.op (some 41) (some (32, true)) (.bin .lss (.t 36) (.t 40))), (.op (some 42) (some (32, true)) (.mv (.t
  41))), (.op (some 43) (some (42, false)) (.mv (.t 0))), (.op (some 44) (some (42, false)) (.mv (.t 6))), (.op (some 45) (some (42, false)) (.iad 1 (.t 43) (.t 44))),
  (.op (some 46) (some (42, false)) (.ld (.t 45))), (.op (some 47) (some (42, false)) (.mv (.t 0))), (.op (some 48) (some (42, false)) (.mv (.t 4))), (.op (some 49)
  (some (42, false)) (.iad 1 (.t 47) (.t 48))), (.op (some 50) (some (42, false)) (.ld (.t 49))), (.op (some 51) (some (42, false)) (.bin .eql (.t 46) (.t 50))), (.op
  (some 52) (some (42, false)) (.mv (.t 51))), (.op (some 53) (some (52, true)) (.mv (.t 6))), (.op (some 54) (some (52, true)) (.mv (.t 4))), (.op (some 55) (some (52,
  true)) (.bin .lss (.t 53) (.t 54))), (.op (some 56) (some (42, false)) (.pick (.t 52) (.t 55) (.c (.bool false)))), (.op (some 57) (some (32, true)) (.pick (.t 42) (.c
  (.bool true)) (.t 56))), (.op (some 58) none (.pick (.t 32) (.t 57) (.c (.bool false))))]) (.cond (.t 58) (.reg [(.op (some 59) none (.mv (.t 5))), (.op (some 60) none
  (.mv (.t 0))), (.op (some 61) none (.mv (.t 6))), (.op (some 62) none (.iad 1 (.t 60) (.t 61))), (.op (some 63) none (.ld (.t 62))), (.op (some 64) none (.bin .sub (.c
  (.int .i64 11)) (.t 63))), (.op (some 65) none (.call 95 [(.t 64)])), (.op (some 66) none (.bin .add (.t 59) (.t 65))), (.op (some 5) none (.mv (.t 66)))]) .skip)))
  (.reg [(.op (some 25) none (.mv (.t 6))), (.op (some 26) none (.bin .add (.t 25) (.c (.int .i64 1)))), (.op (some 6) none (.mv (.t 26)))])))))) (.reg [(.op (some 67)
  none (.mv (.t 3))), (.op (some 68) none (.mv (.t 4))), (.op (some 69) none (.mv (.t 5))), (.op (some 70) none (.mv (.t 0))), (.op (some 71) none (.mv (.t 4))), (.op
  (some 72) none (.iad 1 (.t 70) (.t 71))), (.op (some 73) none (.ld (.t 72))), (.op (some 74) none (.bin .sub (.c (.int .i64 11)) (.t 73))), (.op (some 75) none (.call
  95 [(.t 74)])), (.op (some 76) none (.bin .quo (.t 69) (.t 75))), (.op (some 77) none (.iad 1 (.t 67) (.t 68))), (.op none none (.st (.t 77) (.t 76)))]))))) (.reg
  [(.op (some 14) none (.mv (.t 4))), (.op (some 15) none (.bin .add (.t 14) (.c (.int .i64 1)))), (.op (some 4) none (.mv (.t 15)))])))
def s70_0 (S : Sys) (e : Fe) (H : Heap) (Q : Kx) : Prop := run S (.lenL (.c (e 0))) [] H fun t12_6 H => run S (.bin .lss (.c (e 4)) (.c t12_6)) [] H fun t13_7 H => jn
  (sq (fun e9 H => jn (sq (fun e11 H => run S (.bin .add (.c (e11 4)) (.c (.int .i64 1))) [] H fun t15_12 H => Q .normal (upd (upd (upd e11 14 (e11 4)) 15 t15_12) 4
  t15_12) H) Q) fun Q10 => run S (.iad 1 (.c (e9 0)) (.c (e9 4))) [] H fun t18_13 H => run S (.ld (.c t18_13)) [] H fun t19_14 H => run S (.bin .eql (.c t19_14) (.c
  (.int .i64 0))) [] H fun t20_15 H => jn (blk 1 Q10) fun Q16 => jn (sq (fun e18 H => jn (sq (fun e20 H => run S (.iad 1 (.c (e20 0)) (.c (e20 4))) [] H fun t72_21 H =>
  run S (.ld (.c t72_21)) [] H fun t73_22 H => run S (.bin .sub (.c (.int .i64 11)) (.c t73_22)) [] H fun t74_23 H => run S (.call 95 [(.c t74_23)]) [] H fun t75_24 H =>
  run S (.bin .quo (.c (e20 5)) (.c t75_24)) [] H fun t76_25 H => run S (.iad 1 (.c (e20 3)) (.c (e20 4))) [] H fun t77_26 H => run S (.st (.c t77_26) (.c t76_25)) [] H
  fun _ H => Q16 .normal (upd (upd (upd (upd (upd (upd (upd (upd (upd (upd (upd e20 67 (e20 3)) 68 (e20 4)) 69 (e20 5)) 70 (e20 0)) 71 (e20 4)) 72 t72_21) 73 t73_22) 74
  t74_23) 75 t75_24) 76 t76_25) 77 t77_26) H) Q16) fun Q19 => jn (blk 2 Q19) fun Q27 => WL S b70_1 (upd (upd e18 5 (.int .i64 0)) 6 (.int .i64 0)) H Q27) Q16) fun Q17 =>
  cnd t20_15 (fun Q28 => Q28 (.exit 1) (upd (upd (upd (upd (upd e9 16 (e9 0)) 17 (e9 4)) 18 t18_13) 19 t19_14) 20 t20_15) H) (fun Q29 => Q29 .normal (upd (upd (upd (upd
  (upd e9 16 (e9 0)) 17 (e9 4)) 18 t18_13) 19 t19_14) 20 t20_15) H) Q17) Q) fun Q8 => cnd t13_7 (fun Q30 => Q30 .normal (upd (upd (upd (upd e 10 (e 4)) 11 (e 0)) 12
  t12_6) 13 t13_7) H) (fun Q31 => Q31 (.exit 0) (upd (upd (upd (upd e 10 (e 4)) 11 (e 0)) 12 t12_6) 13 t13_7) H) Q8
theorem h70_0 (S : Sys) (e : Fe) (H : Heap) (Q : Kx) : wpC S b70_0 e H Q = s70_0 S e H Q := by kernel_rfl
theorem l70_0 (S : Sys) {Q : Kx} (I : Nat → Fe → Heap → Prop) (d : Nat) {e0 : Fe} {H : Heap} (h0 : I d e0 H) (hr : ∀ (d : Nat) (e : Fe) (H : Heap), I d e H → s70_0 S e H
  (sq (fun e' H' => ∃ d', d' < d ∧ I d' e' H') Q)) : WL S b70_0 e0 H Q := WL_inv I d h0 fun d e H hi => (h70_0 S e H _).mpr (hr d e H hi)
theorem u70_0 (S : Sys) {Q : Kx} {e : Fe} {H : Heap} (h : s70_0 S e H (sq (fun e' H' => WL S b70_0 e' H' Q) Q)) : WL S b70_0 e H Q := WL_once ((h70_0 S e H _).mpr h)
def s70 (S : Sys) (a0 : Value) (H : Heap) (R : Kv) : Prop := run S (.lenL (.c a0)) [] H fun t8_1 H => run S (.mks 3 [(.int .i64 0)] 8 (.c t8_1) (.c t8_1)) [] H fun t9_2
  H => jn (sq (fun e4 H => R (e4 3) H) (fn [(.t 2)] R)) fun Q3 => jn (blk 0 Q3) fun Q5 => WL S b70_0 (upd (upd (upd (upd (upd (upd (Env.get [a0]) 2 (.slice none 0 0)) 7
  a0) 8 t8_1) 9 t9_2) 3 t9_2) 4 (.int .i64 0)) H Q5
theorem h70 (S : Sys) (a0 : Value) (H : Heap) (R : Kv) : wpC S k70.body (Env.get [a0]) H (fn [(.t 2)] R) = s70 S a0 H R := by kernel_rfl
theorem w70 {S : Sys} (hR : S.R 70 = none) (hF : S.F 70 = some k70) (a0 : Value) {H : Heap} {R : Kv} (h : s70 S a0 H R) : Wf S 70 [a0] H R := Wf_sh hR hF ((h70 S a0 H
  R).mpr h)
def b71_0 : KCode := (.seq (.reg [(.op (some 27) none (.bin .lss (.t 26) (.t 25)))]) (.seq (.cond (.t 27) .skip (.exit 0)) (.seq (.block 1 (.seq (.reg [(.op (some 28)
  none (.mv (.t 26))), (.op (some 29) none (.iad 1 (.t 24) (.t 26))), (.op (some 30) none (.ld (.t 29))), (.op (some 7) none (.mv (.t 28))), (.op (some 8) none (.mv (.t
  30)))]) (.seq (.seq (.reg [(.op (some 31) none (.mv (.t 8))), (.op (some 32) none (.bin .gtr (.t 31) (.c (.int .i64 0)))), (.op (some 33) none (.mv (.t 32))), (.op
  (some 34) (some (33, true)) (.mv (.t 1))), (.op (some 35) (some (33, true)) (.mv (.t 7))), (.op (some 36) (some (33, true)) (.iad 1 (.t 34) (.t 35))), (.op (some 37)
  (some (33, true)) (.ld (.t 36))), (.op (some 38) (some (33, true)) (.bin .eql (.t 37) (.c (.int .i64 0)))), (.op (some 39) none (.pick (.t 33) (.t 38) (.c (.bool
  false))))]) (.cond (.t 39) (.seq (.reg [(.op (some 4) none (.mv (.c (.int .i64 0)))), (.op (some 5) none (.mv (.c (.bool false))))]) .ret) .skip)) (.reg [(.op (some
  40) none (.mv (.t 6))), (.op (some 41) none (.mv (.t 8))), (.op (some 42) none (.mv (.t 1))), (.op (some 43) none (.mv (.t 7))), (.op (some 44) none (.iad 1 (.t 42)
  (.t 43))), (.op (some 45) none (.ld (.t 44))), (.op (some 46) none (.bin .mul (.t 41) (.t 45))), (.op (some 47) none (.bin .add (.t 40) (.t 46))), (.op (some 6) none
  (.mv (.t 47)))])))) (.reg [(.op (some 48) none (.bin .add (.t 26) (.c (.int .i64 1)))), (.op (some 26) none (.mv (.t 48)))]))))
def s71_0 (S : Sys) (e : Fe) (H : Heap) (Q : Kx) : Prop := run S (.bin .lss (.c (e 26)) (.c (e 25))) [] H fun t27_21 H => jn (sq (fun e23 H => jn (sq (fun e25 H => run S
  (.bin .add (.c (e25 26)) (.c (.int .i64 1))) [] H fun t48_26 H => Q .normal (upd (upd e25 48 t48_26) 26 t48_26) H) Q) fun Q24 => run S (.iad 1 (.c (e23 24)) (.c (e23
  26))) [] H fun t29_27 H => run S (.ld (.c t29_27)) [] H fun t30_28 H => run S (.bin .gtr (.c t30_28) (.c (.int .i64 0))) [] H fun t32_29 H => gd t32_29 true (run S
  (.mv (.c (e23 1))) [] H) H fun t34_30 H => gd t32_29 true (run S (.mv (.c (e23 26))) [] H) H fun t35_31 H => gd t32_29 true (run S (.iad 1 (.c t34_30) (.c t35_31)) []
  H) H fun t36_32 H => gd t32_29 true (run S (.ld (.c t36_32)) [] H) H fun t37_33 H => gd t32_29 true (run S (.bin .eql (.c t37_33) (.c (.int .i64 0))) [] H) H fun
  t38_34 H => run S (.pick (.c t32_29) (.c t38_34) (.c (.bool false))) [] H fun t39_35 H => jn (blk 1 Q24) fun Q36 => jn (sq (fun e38 H => run S (.iad 1 (.c (e38 1)) (.c
  (e38 7))) [] H fun t44_39 H => run S (.ld (.c t44_39)) [] H fun t45_40 H => run S (.bin .mul (.c (e38 8)) (.c t45_40)) [] H fun t46_41 H => run S (.bin .add (.c (e38
  6)) (.c t46_41)) [] H fun t47_42 H => Q36 .normal (upd (upd (upd (upd (upd (upd (upd (upd (upd e38 40 (e38 6)) 41 (e38 8)) 42 (e38 1)) 43 (e38 7)) 44 t44_39) 45
  t45_40) 46 t46_41) 47 t47_42) 6 t47_42) H) Q36) fun Q37 => cnd t39_35 (fun Q43 => Q43 .ret (upd (upd (upd (upd (upd (upd (upd (upd (upd (upd (upd (upd (upd (upd (upd
  (upd e23 28 (e23 26)) 29 t29_27) 30 t30_28) 7 (e23 26)) 8 t30_28) 31 t30_28) 32 t32_29) 33 t32_29) 34 t34_30) 35 t35_31) 36 t36_32) 37 t37_33) 38 t38_34) 39 t39_35) 4
  (.int .i64 0)) 5 (.bool false)) H) (fun Q44 => Q44 .normal (upd (upd (upd (upd (upd (upd (upd (upd (upd (upd (upd (upd (upd (upd e23 28 (e23 26)) 29 t29_27) 30 t30_28)
  7 (e23 26)) 8 t30_28) 31 t30_28) 32 t32_29) 33 t32_29) 34 t34_30) 35 t35_31) 36 t36_32) 37 t37_33) 38 t38_34) 39 t39_35) H) Q37) Q) fun Q22 => cnd t27_21 (fun Q45 =>
  Q45 .normal (upd e 27 t27_21) H) (fun Q46 => Q46 (.exit 0) (upd e 27 t27_21) H) Q22
theorem h71_0 (S : Sys) (e : Fe) (H : Heap) (Q : Kx) : wpC S b71_0 e H Q = s71_0 S e H Q := by kernel_rfl
theorem l71_0 (S : Sys) {Q : Kx} (I : Nat → Fe → Heap → Prop) (d : Nat) {e0 : Fe} {H : Heap} (h0 : I d e0 H) (hr : ∀ (d : Nat) (e : Fe) (H : Heap), I d e H → s71_0 S e H
  (sq (fun e' H' => ∃ d', d' < d ∧ I d' e' H') Q)) : WL S b71_0 e0 H Q := WL_inv I d h0 fun d e H hi => (h71_0 S e H _).mpr (hr d e H hi)
theorem u71_0 (S : Sys) {Q : Kx} {e : Fe} {H : Heap} (h : s71_0 S e H (sq (fun e' H' => WL S b71_0 e' H' Q) Q)) : WL S b71_0 e H Q := WL_once ((h71_0 S e H _).mpr h)
def s71 (S : Sys) (a0 a1 : Value) (H : Heap) (R : Kv) : Prop := run S (.call 131 [(.c a0)]) [] H fun t10_1 H => run S (.un .not (.c t10_1)) [] H fun t11_2 H => gd t11_2
  false (run S (.mv (.c a1)) [] H) H fun t13_3 H => gd t11_2 false (run S (.lenL (.c t13_3)) [] H) H fun t14_4 H => gd t11_2 false (run S (.mv (.c a0)) [] H) H fun t15_5
  H => gd t11_2 false (run S (.lenL (.c t15_5)) [] H) H fun t16_6 H => gd t11_2 false (run S (.bin .lss (.c t14_4) (.c t16_6)) [] H) H fun t17_7 H => run S (.pick (.c
  t11_2) (.c (.bool true)) (.c t17_7)) [] H fun t18_8 H => gd t18_8 false (run S (.mv (.c a1)) [] H) H fun t20_9 H => gd t18_8 false (run S (.call 130 [(.c t20_9)]) []
  H) H fun t21_10 H => gd t18_8 false (run S (.un .not (.c t21_10)) [] H) H fun t22_11 H => run S (.pick (.c t18_8) (.c (.bool true)) (.c t22_11)) [] H fun t23_12 H =>
  jn (sq (fun e14 H => run S (.lenL (.c (e14 0))) [] H fun t25_15 H => jn (sq (fun e17 H => R (tup [(e17 6), (.bool true)]) H) (fn [(.t 4), (.t 5)] R)) fun Q16 => jn
  (blk 0 Q16) fun Q18 => WL S b71_0 (upd (upd (upd (upd e14 6 (.int .i64 0)) 24 (e14 0)) 25 t25_15) 26 (.int .i64 0)) H Q18) (fn [(.t 4), (.t 5)] R)) fun Q13 => cnd
  t23_12 (fun Q19 => Q19 .ret (upd (upd (upd (upd (upd (upd (upd (upd (upd (upd (upd (upd (upd (upd (upd (upd (upd (upd (upd (Env.get [a0, a1]) 4 (.int .i64 0)) 5 (.bool
  false)) 9 a0) 10 t10_1) 11 t11_2) 12 t11_2) 13 t13_3) 14 t14_4) 15 t15_5) 16 t16_6) 17 t17_7) 18 t18_8) 19 t18_8) 20 t20_9) 21 t21_10) 22 t22_11) 23 t23_12) 4 (.int
  .i64 0)) 5 (.bool false)) H) (fun Q20 => Q20 .normal (upd (upd (upd (upd (upd (upd (upd (upd (upd (upd (upd (upd (upd (upd (upd (upd (upd (Env.get [a0, a1]) 4 (.int
  .i64 0)) 5 (.bool false)) 9 a0) 10 t10_1) 11 t11_2) 12 t11_2) 13 t13_3) 14 t14_4) 15 t15_5) 16 t16_6) 17 t17_7) 18 t18_8) 19 t18_8) 20 t20_9) 21 t21_10) 22 t22_11) 23
  t23_12) H) Q13
theorem h71 (S : Sys) (a0 a1 : Value) (H : Heap) (R : Kv) : wpC S k71.body (Env.get [a0, a1]) H (fn [(.t 4), (.t 5)] R) = s71 S a0 a1 H R := by kernel_rfl
theorem w71 {S : Sys} (hR : S.R 71 = none) (hF : S.F 71 = some k71) (a0 a1 : Value) {H : Heap} {R : Kv} (h : s71 S a0 a1 H R) : Wf S 71 [a0, a1] H R := Wf_sh hR hF ((h71
  S a0 a1 H R).mpr h)
def b72_0 : KCode := (.seq (.seq (.reg [(.op (some 5) none (.mv (.t 4))), (.op (some 6) none (.mv (.t 0))), (.op (some 7) none (.lenL (.t 6))), (.op (some 8) none (.bin
  .lss (.t 5) (.t 7)))]) (.cond (.t 8) .skip (.exit 0))) (.seq (.block 1 (.seq (.seq (.reg [(.op (some 11) none (.mv (.t 0))), (.op (some 12) none (.mv (.t 4))), (.op
  (some 13) none (.iad 1 (.t 11) (.t 12))), (.op (some 14) none (.ld (.t 13))), (.op (some 15) none (.bin .lss (.t 14) (.c (.int .i64 0)))), (.op (some 16) none (.mv (.t
  15))), (.op (some 17) (some (16, false)) (.mv (.t 0))), (.op (some 18) (some (16, false)) (.mv (.t 4))), (.op (some 19) (some (16, false)) (.iad 1 (.t 17) (.t 18))),
  (.op (some 20) (some (16, false)) (.ld (.t 19))), (.op (some 21) (some (16, false)) (.bin .gtr (.t 20) (.c (.int .i64 1048576)))), (.op (some 22) none (.pick (.t 16)
  (.c (.bool true)) (.t 21)))]) (.cond (.t 22) (.seq (.reg [(.op (some 2) none (.mv (.c (.bool false))))]) .ret) .skip)) (.reg [(.op (some 23) none (.mv (.t 3))), (.op
  (some 24) none (.mv (.t 23))), (.op (some 25) (some (24, false)) (.mv (.t 0))), (.op (some 26) (some (24, false)) (.mv (.t 4))), (.op (some 27) (some (24, false))
  (.iad 1 (.t 25) (.t 26))), (.op (some 28) (some (24, false)) (.ld (.t 27))), (.op (some 29) (some (24, false)) (.bin .gtr (.t 28) (.c (.int .i64 0)))), (.op (some 30)
  none (.pick (.t 24) (.c (.bool true)) (.t 29))), (.op (some 3) none (.mv (.t 30)))]))) (.reg [(.op (some 9) none (.mv (.t 4))), (.op (some 10) none (.bin .add (.t 9)
  (.c (.int .i64 1)))), (.op (some 4) none (.mv (.t 10)))])))
def s72_0 (S : Sys) (e : Fe) (H : Heap) (Q : Kx) : Prop := run S (.lenL (.c (e 0))) [] H fun t7_8 H => run S (.bin .lss (.c (e 4)) (.c t7_8)) [] H fun t8_9 H => jn (sq
  (fun e11 H => jn (sq (fun e13 H => run S (.bin .add (.c (e13 4)) (.c (.int .i64 1))) [] H fun t10_14 H => Q .normal (upd (upd (upd e13 9 (e13 4)) 10 t10_14) 4 t10_14)
  H) Q) fun Q12 => run S (.iad 1 (.c (e11 0)) (.c (e11 4))) [] H fun t13_15 H => run S (.ld (.c t13_15)) [] H fun t14_16 H => run S (.bin .lss (.c t14_16) (.c (.int .i64
  0))) [] H fun t15_17 H => gd t15_17 false (run S (.mv (.c (e11 0))) [] H) H fun t17_18 H => gd t15_17 false (run S (.mv (.c (e11 4))) [] H) H fun t18_19 H => gd t15_17
  false (run S (.iad 1 (.c t17_18) (.c t18_19)) [] H) H fun t19_20 H => gd t15_17 false (run S (.ld (.c t19_20)) [] H) H fun t20_21 H => gd t15_17 false (run S (.bin
  .gtr (.c t20_21) (.c (.int .i64 1048576))) [] H) H fun t21_22 H => run S (.pick (.c t15_17) (.c (.bool true)) (.c t21_22)) [] H fun t22_23 H => jn (blk 1 Q12) fun Q24
  => jn (sq (fun e26 H => gd (e26 3) false (run S (.mv (.c (e26 0))) [] H) H fun t25_27 H => gd (e26 3) false (run S (.mv (.c (e26 4))) [] H) H fun t26_28 H => gd (e26
  3) false (run S (.iad 1 (.c t25_27) (.c t26_28)) [] H) H fun t27_29 H => gd (e26 3) false (run S (.ld (.c t27_29)) [] H) H fun t28_30 H => gd (e26 3) false (run S
  (.bin .gtr (.c t28_30) (.c (.int .i64 0))) [] H) H fun t29_31 H => run S (.pick (.c (e26 3)) (.c (.bool true)) (.c t29_31)) [] H fun t30_32 H => Q24 .normal (upd (upd
  (upd (upd (upd (upd (upd (upd (upd e26 23 (e26 3)) 24 (e26 3)) 25 t25_27) 26 t26_28) 27 t27_29) 28 t28_30) 29 t29_31) 30 t30_32) 3 t30_32) H) Q24) fun Q25 => cnd
  t22_23 (fun Q33 => Q33 .ret (upd (upd (upd (upd (upd (upd (upd (upd (upd (upd (upd (upd (upd e11 11 (e11 0)) 12 (e11 4)) 13 t13_15) 14 t14_16) 15 t15_17) 16 t15_17) 17
  t17_18) 18 t18_19) 19 t19_20) 20 t20_21) 21 t21_22) 22 t22_23) 2 (.bool false)) H) (fun Q34 => Q34 .normal (upd (upd (upd (upd (upd (upd (upd (upd (upd (upd (upd (upd
  e11 11 (e11 0)) 12 (e11 4)) 13 t13_15) 14 t14_16) 15 t15_17) 16 t15_17) 17 t17_18) 18 t18_19) 19 t19_20) 20 t20_21) 21 t21_22) 22 t22_23) H) Q25) Q) fun Q10 => cnd
  t8_9 (fun Q35 => Q35 .normal (upd (upd (upd (upd e 5 (e 4)) 6 (e 0)) 7 t7_8) 8 t8_9) H) (fun Q36 => Q36 (.exit 0) (upd (upd (upd (upd e 5 (e 4)) 6 (e 0)) 7 t7_8) 8
  t8_9) H) Q10
theorem h72_0 (S : Sys) (e : Fe) (H : Heap) (Q : Kx) : wpC S b72_0 e H Q = s72_0 S e H Q := by kernel_rfl
theorem l72_0 (S : Sys) {Q : Kx} (I : Nat → Fe → Heap → Prop) (d : Nat) {e0 : Fe} {H : Heap} (h0 : I d e0 H) (hr : ∀ (d : Nat) (e : Fe) (H : Heap), I d e H → s72_0 S e H
  (sq (fun e' H' => ∃ d', d' < d ∧ I d' e' H') Q)) : WL S b72_0 e0 H Q := WL_inv I d h0 fun d e H hi => (h72_0 S e H _).mpr (hr d e H hi)
theorem u72_0 (S : Sys) {Q : Kx} {e : Fe} {H : Heap} (h : s72_0 S e H (sq (fun e' H' => WL S b72_0 e' H' Q) Q)) : WL S b72_0 e H Q := WL_once ((h72_0 S e H _).mpr h)
def s72 (S : Sys) (a0 : Value) (H : Heap) (R : Kv) : Prop := jn (sq (fun e2 H => gd (e2 3) true (run S (.mv (.c (e2 0))) [] H) H fun t33_3 H => gd (e2 3) true (run S
  (.lenL (.c t33_3)) [] H) H fun t34_4 H => gd (e2 3) true (run S (.bin .leq (.c t34_4) (.c (.int .i64 256))) [] H) H fun t35_5 H => run S (.pick (.c (e2 3)) (.c t35_5)
  (.c (.bool false))) [] H fun t36_6 H => R t36_6 H) (fn [(.t 2)] R)) fun Q1 => jn (blk 0 Q1) fun Q7 => WL S b72_0 (upd (upd (upd (Env.get [a0]) 2 (.bool false)) 3
  (.bool false)) 4 (.int .i64 0)) H Q7
theorem h72 (S : Sys) (a0 : Value) (H : Heap) (R : Kv) : wpC S k72.body (Env.get [a0]) H (fn [(.t 2)] R) = s72 S a0 H R := by kernel_rfl
theorem w72 {S : Sys} (hR : S.R 72 = none) (hF : S.F 72 = some k72) (a0 : Value) {H : Heap} {R : Kv} (h : s72 S a0 H R) : Wf S 72 [a0] H R := Wf_sh hR hF ((h72 S a0 H
  R).mpr h)
def b73_0 : KCode := (.seq (.seq (.reg [(.op (some 4) none (.mv (.t 3))), (.op (some 5) none (.mv (.t 0))), (.op (some 6) none (.lenL (.t 5))), (.op (some 7) none (.bin
  .lss (.t 4) (.t 6)))]) (.cond (.t 7) .skip (.exit 0))) (.seq (.block 1 (.seq (.reg [(.op (some 10) none (.mv (.t 0))), (.op (some 11) none (.mv (.t 3))), (.op (some
  12) none (.iad 1 (.t 10) (.t 11))), (.op (some 13) none (.ld (.t 12))), (.op (some 14) none (.bin .lss (.t 13) (.c (.int .i64 0)))), (.op (some 15) none (.mv (.t
  14))), (.op (some 16) (some (15, false)) (.mv (.t 0))), (.op (some 17) (some (15, false)) (.mv (.t 3))), (.op (some 18) (some (15, false)) (.iad 1 (.t 16) (.t 17))),
  (.op (some 19) (some (15, false)) (.ld (.t 18))), (.op (some 20) (some (15, false)) (.bin .gtr (.t 19) (.c (.int .i64 11)))), (.op (some 21) none (.pick (.t 15) (.c
  (.bool true)) (.t 20)))]) (.cond (.t 21) (.seq (.reg [(.op (some 2) none (.mv (.c (.bool false))))]) .ret) .skip))) (.reg [(.op (some 8) none (.mv (.t 3))), (.op (some
  9) none (.bin .add (.t 8) (.c (.int .i64 1)))), (.op (some 3) none (.mv (.t 9)))])))
def s73_0 (S : Sys) (e : Fe) (H : Heap) (Q : Kx) : Prop := run S (.lenL (.c (e 0))) [] H fun t6_6 H => run S (.bin .lss (.c (e 3)) (.c t6_6)) [] H fun t7_7 H => jn (sq
  (fun e9 H => jn (sq (fun e11 H => run S (.bin .add (.c (e11 3)) (.c (.int .i64 1))) [] H fun t9_12 H => Q .normal (upd (upd (upd e11 8 (e11 3)) 9 t9_12) 3 t9_12) H) Q)
  fun Q10 => run S (.iad 1 (.c (e9 0)) (.c (e9 3))) [] H fun t12_13 H => run S (.ld (.c t12_13)) [] H fun t13_14 H => run S (.bin .lss (.c t13_14) (.c (.int .i64 0))) []
  H fun t14_15 H => gd t14_15 false (run S (.mv (.c (e9 0))) [] H) H fun t16_16 H => gd t14_15 false (run S (.mv (.c (e9 3))) [] H) H fun t17_17 H => gd t14_15 false
  (run S (.iad 1 (.c t16_16) (.c t17_17)) [] H) H fun t18_18 H => gd t14_15 false (run S (.ld (.c t18_18)) [] H) H fun t19_19 H => gd t14_15 false (run S (.bin .gtr (.c
  t19_19) (.c (.int .i64 11))) [] H) H fun t20_20 H => run S (.pick (.c t14_15) (.c (.bool true)) (.c t20_20)) [] H fun t21_21 H => jn (blk 1 Q10) fun Q22 => cnd t21_21
  (fun Q23 => Q23 .ret (upd (upd (upd (upd (upd (upd (upd (upd (upd (upd (upd (upd (upd e9 10 (e9 0)) 11 (e9 3)) 12 t12_13) 13 t13_14) 14 t14_15) 15 t14_15) 16 t16_16)
  17 t17_17) 18 t18_18) 19 t19_19) 20 t20_20) 21 t21_21) 2 (.bool false)) H) (fun Q24 => Q24 .normal (upd (upd (upd (upd (upd (upd (upd (upd (upd (upd (upd (upd e9 10
  (e9 0)) 11 (e9 3)) 12 t12_13) 13 t13_14) 14 t14_15) 15 t14_15) 16 t16_16) 17 t17_17) 18 t18_18) 19 t19_19) 20 t20_20) 21 t21_21) H) Q22) Q) fun Q8 => cnd t7_7 (fun Q25
  => Q25 .normal (upd (upd (upd (upd e 4 (e 3)) 5 (e 0)) 6 t6_6) 7 t7_7) H) (fun Q26 => Q26 (.exit 0) (upd (upd (upd (upd e 4 (e 3)) 5 (e 0)) 6 t6_6) 7 t7_7) H) Q8
theorem h73_0 (S : Sys) (e : Fe) (H : Heap) (Q : Kx) : wpC S b73_0 e H Q = s73_0 S e H Q := by kernel_rfl
theorem l73_0 (S : Sys) {Q : Kx} (I : Nat → Fe → Heap → Prop) (d : Nat) {e0 : Fe} {H : Heap} (h0 : I d e0 H) (hr : ∀ (d : Nat) (e : Fe) (H : Heap), I d e H → s73_0 S e H
  (sq (fun e' H' => ∃ d', d' < d ∧ I d' e' H') Q)) : WL S b73_0 e0 H Q := WL_inv I d h0 fun d e H hi => (h73_0 S e H _).mpr (hr d e H hi)
theorem u73_0 (S : Sys) {Q : Kx} {e : Fe} {H : Heap} (h : s73_0 S e H (sq (fun e' H' => WL S b73_0 e' H' Q) Q)) : WL S b73_0 e H Q := WL_once ((h73_0 S e H _).mpr h)
def s73 (S : Sys) (a0 : Value) (H : Heap) (R : Kv) : Prop := jn (sq (fun e2 H => run S (.lenL (.c (e2 0))) [] H fun t23_3 H => run S (.bin .leq (.c t23_3) (.c (.int .i64
  256))) [] H fun t24_4 H => R t24_4 H) (fn [(.t 2)] R)) fun Q1 => jn (blk 0 Q1) fun Q5 => WL S b73_0 (upd (upd (Env.get [a0]) 2 (.bool false)) 3 (.int .i64 0)) H Q5
theorem h73 (S : Sys) (a0 : Value) (H : Heap) (R : Kv) : wpC S k73.body (Env.get [a0]) H (fn [(.t 2)] R) = s73 S a0 H R := by kernel_rfl
theorem w73 {S : Sys} (hR : S.R 73 = none) (hF : S.F 73 = some k73) (a0 : Value) {H : Heap} {R : Kv} (h : s73 S a0 H R) : Wf S 73 [a0] H R := Wf_sh hR hF ((h73 S a0 H
  R).mpr h)
def b74_0 : KCode := (.seq (.seq (.reg [(.op (some 8) none (.mv (.t 7))), (.op (some 9) none (.mv (.t 0))), (.op (some 10) none (.lenL (.t 9))), (.op (some 11) none
  (.bin .lss (.t 8) (.t 10)))]) (.cond (.t 11) .skip (.exit 0))) (.seq (.block 1 (.seq (.seq (.reg [(.op (some 14) none (.mv (.t 0))), (.op (some 15) none (.mv (.t 7))),
  (.op (some 16) none (.iad 1 (.t 14) (.t 15))), (.op (some 17) none (.ld (.t 16))), (.op (some 18) none (.bin .gtr (.t 17) (.c (.int .i64 0)))), (.op (some 19) none
  (.mv (.t 18))), (.op (some 20) (some (19, true)) (.mv (.t 1))), (.op (some 21) (some (19, true)) (.mv (.t 7))), (.op (some 22) (some (19, true)) (.iad 1 (.t 20) (.t
  21))), (.op (some 23) (some (19, true)) (.ld (.t 22))), (.op (some 24) (some (19, true)) (.bin .eql (.t 23) (.c (.int .i64 0)))), (.op (some 25) none (.pick (.t 19)
  (.t 24) (.c (.bool false))))]) (.cond (.t 25) (.seq (.reg [(.op (some 4) none (.mv (.c (.int .i64 0)))), (.op (some 5) none (.mv (.c (.bool false))))]) .ret) .skip))
  (.reg [(.op (some 26) none (.mv (.t 6))), (.op (some 27) none (.mv (.t 0))), (.op (some 28) none (.mv (.t 7))), (.op (some 29) none (.iad 1 (.t 27) (.t 28))), (.op
  (some 30) none (.ld (.t 29))), (.op (some 31) none (.mv (.t 1))), (.op (some 32) none (.mv (.t 7))), (.op (some 33) none (.iad 1 (.t 31) (.t 32))), (.op (some 34) none
  (.ld (.t 33))), (.op (some 35) none (.bin .mul (.t 30) (.t 34))), (.op (some 36) none (.bin .add (.t 26) (.t 35))), (.op (some 6) none (.mv (.t 36)))]))) (.reg [(.op
  (some 12) none (.mv (.t 7))), (.op (some 13) none (.bin .add (.t 12) (.c (.int .i64 1)))), (.op (some 7) none (.mv (.t 13)))])))
def s74_0 (S : Sys) (e : Fe) (H : Heap) (Q : Kx) : Prop := run S (.lenL (.c (e 0))) [] H fun t10_4 H => run S (.bin .lss (.c (e 7)) (.c t10_4)) [] H fun t11_5 H => jn
  (sq (fun e7 H => jn (sq (fun e9 H => run S (.bin .add (.c (e9 7)) (.c (.int .i64 1))) [] H fun t13_10 H => Q .normal (upd (upd (upd e9 12 (e9 7)) 13 t13_10) 7 t13_10)
  H) Q) fun Q8 => run S (.iad 1 (.c (e7 0)) (.c (e7 7))) [] H fun t16_11 H => run S (.ld (.c t16_11)) [] H fun t17_12 H => run S (.bin .gtr (.c t17_12) (.c (.int .i64
  0))) [] H fun t18_13 H => gd t18_13 true (run S (.mv (.c (e7 1))) [] H) H fun t20_14 H => gd t18_13 true (run S (.mv (.c (e7 7))) [] H) H fun t21_15 H => gd t18_13
  true (run S (.iad 1 (.c t20_14) (.c t21_15)) [] H) H fun t22_16 H => gd t18_13 true (run S (.ld (.c t22_16)) [] H) H fun t23_17 H => gd t18_13 true (run S (.bin .eql
  (.c t23_17) (.c (.int .i64 0))) [] H) H fun t24_18 H => run S (.pick (.c t18_13) (.c t24_18) (.c (.bool false))) [] H fun t25_19 H => jn (blk 1 Q8) fun Q20 => jn (sq
  (fun e22 H => run S (.iad 1 (.c (e22 0)) (.c (e22 7))) [] H fun t29_23 H => run S (.ld (.c t29_23)) [] H fun t30_24 H => run S (.iad 1 (.c (e22 1)) (.c (e22 7))) [] H
  fun t33_25 H => run S (.ld (.c t33_25)) [] H fun t34_26 H => run S (.bin .mul (.c t30_24) (.c t34_26)) [] H fun t35_27 H => run S (.bin .add (.c (e22 6)) (.c t35_27))
  [] H fun t36_28 H => Q20 .normal (upd (upd (upd (upd (upd (upd (upd (upd (upd (upd (upd (upd e22 26 (e22 6)) 27 (e22 0)) 28 (e22 7)) 29 t29_23) 30 t30_24) 31 (e22 1))
  32 (e22 7)) 33 t33_25) 34 t34_26) 35 t35_27) 36 t36_28) 6 t36_28) H) Q20) fun Q21 => cnd t25_19 (fun Q29 => Q29 .ret (upd (upd (upd (upd (upd (upd (upd (upd (upd (upd
  (upd (upd (upd (upd e7 14 (e7 0)) 15 (e7 7)) 16 t16_11) 17 t17_12) 18 t18_13) 19 t18_13) 20 t20_14) 21 t21_15) 22 t22_16) 23 t23_17) 24 t24_18) 25 t25_19) 4 (.int .i64
  0)) 5 (.bool false)) H) (fun Q30 => Q30 .normal (upd (upd (upd (upd (upd (upd (upd (upd (upd (upd (upd (upd e7 14 (e7 0)) 15 (e7 7)) 16 t16_11) 17 t17_12) 18 t18_13)
  19 t18_13) 20 t20_14) 21 t21_15) 22 t22_16) 23 t23_17) 24 t24_18) 25 t25_19) H) Q21) Q) fun Q6 => cnd t11_5 (fun Q31 => Q31 .normal (upd (upd (upd (upd e 8 (e 7)) 9 (e
  0)) 10 t10_4) 11 t11_5) H) (fun Q32 => Q32 (.exit 0) (upd (upd (upd (upd e 8 (e 7)) 9 (e 0)) 10 t10_4) 11 t11_5) H) Q6
theorem h74_0 (S : Sys) (e : Fe) (H : Heap) (Q : Kx) : wpC S b74_0 e H Q = s74_0 S e H Q := by kernel_rfl
theorem l74_0 (S : Sys) {Q : Kx} (I : Nat → Fe → Heap → Prop) (d : Nat) {e0 : Fe} {H : Heap} (h0 : I d e0 H) (hr : ∀ (d : Nat) (e : Fe) (H : Heap), I d e H → s74_0 S e H
  (sq (fun e' H' => ∃ d', d' < d ∧ I d' e' H') Q)) : WL S b74_0 e0 H Q := WL_inv I d h0 fun d e H hi => (h74_0 S e H _).mpr (hr d e H hi)
theorem u74_0 (S : Sys) {Q : Kx} {e : Fe} {H : Heap} (h : s74_0 S e H (sq (fun e' H' => WL S b74_0 e' H' Q) Q)) : WL S b74_0 e H Q := WL_once ((h74_0 S e H _).mpr h)
def s74 (S : Sys) (a0 a1 : Value) (H : Heap) (R : Kv) : Prop := jn (sq (fun e2 H => R (tup [(e2 6), (.bool true)]) H) (fn [(.t 4), (.t 5)] R)) fun Q1 => jn (blk 0 Q1)
  fun Q3 => WL S b74_0 (upd (upd (upd (upd (Env.get [a0, a1]) 4 (.int .i64 0)) 5 (.bool false)) 6 (.int .i64 0)) 7 (.int .i64 0)) H Q3
theorem h74 (S : Sys) (a0 a1 : Value) (H : Heap) (R : Kv) : wpC S k74.body (Env.get [a0, a1]) H (fn [(.t 4), (.t 5)] R) = s74 S a0 a1 H R := by kernel_rfl
theorem w74 {S : Sys} (hR : S.R 74 = none) (hF : S.F 74 = some k74) (a0 a1 : Value) {H : Heap} {R : Kv} (h : s74 S a0 a1 H R) : Wf S 74 [a0, a1] H R := Wf_sh hR hF ((h74
  S a0 a1 H R).mpr h)
def b79_1 : KCode := (.seq (.seq (.reg [(.op (some 12) none (.mv (.t 3))), (.op (some 13) none (.lenL (.t 12))), (.op (some 14) none (.mv (.t 5))), (.op (some 15) none
  (.cvt .i64 (.t 14))), (.op (some 16) none (.bin .leq (.t 13) (.t 15)))]) (.cond (.t 16) .skip (.exit 2))) (.block 3 (.reg [(.op (some 17) none (.mv (.t 3))), (.op
  (some 18) none (.bsl 3 1 [(.int .i64 0)] [(0, (1, (.c (.int .i64 0))))])), (.op (some 19) none (.app 3 1 8 (.t 17) (.t 18))), (.op (some 3) none (.mv (.t 19)))])))
def s79_1 (S : Sys) (e : Fe) (H : Heap) (Q : Kx) : Prop := run S (.lenL (.c (e 3))) [] H fun t13_23 H => run S (.cvt .i64 (.c (e 5))) [] H fun t15_24 H => run S (.bin
  .leq (.c t13_23) (.c t15_24)) [] H fun t16_25 H => jn (sq (fun e27 H => run S (.bsl 3 1 [(.int .i64 0)] [(0, (1, (.c (.int .i64 0))))]) [] H fun t18_28 H => run S
  (.app 3 1 8 (.c (e27 3)) (.c t18_28)) [] H fun t19_29 H => Q .normal (upd (upd (upd (upd e27 17 (e27 3)) 18 t18_28) 19 t19_29) 3 t19_29) H) Q) fun Q26 => cnd t16_25
  (fun Q30 => Q30 .normal (upd (upd (upd (upd (upd e 12 (e 3)) 13 t13_23) 14 (e 5)) 15 t15_24) 16 t16_25) H) (fun Q31 => Q31 (.exit 2) (upd (upd (upd (upd (upd e 12 (e
  3)) 13 t13_23) 14 (e 5)) 15 t15_24) 16 t16_25) H) Q26
theorem h79_1 (S : Sys) (e : Fe) (H : Heap) (Q : Kx) : wpC S b79_1 e H Q = s79_1 S e H Q := by kernel_rfl
theorem l79_1 (S : Sys) {Q : Kx} (I : Nat → Fe → Heap → Prop) (d : Nat) {e0 : Fe} {H : Heap} (h0 : I d e0 H) (hr : ∀ (d : Nat) (e : Fe) (H : Heap), I d e H → s79_1 S e H
  (sq (fun e' H' => ∃ d', d' < d ∧ I d' e' H') Q)) : WL S b79_1 e0 H Q := WL_inv I d h0 fun d e H hi => (h79_1 S e H _).mpr (hr d e H hi)
theorem u79_1 (S : Sys) {Q : Kx} {e : Fe} {H : Heap} (h : s79_1 S e H (sq (fun e' H' => WL S b79_1 e' H' Q) Q)) : WL S b79_1 e H Q := WL_once ((h79_1 S e H _).mpr h)
def b79_0 : KCode := (.seq (.reg [(.op (some 9) none (.bin .lss (.t 8) (.t 7)))]) (.seq (.cond (.t 9) .skip (.exit 0)) (.seq (.block 1 (.seq (.reg [(.op (some 10) none
  (.iad 1 (.t 6) (.t 8))), (.op (some 11) none (.ld (.t 10))), (.op (some 5) none (.mv (.t 11)))]) (.seq (.block 2 (.loop (.seq (.seq (.reg [(.op (some 12) none (.mv (.t
  3))), (.op (some 13) none (.lenL (.t 12))), (.op (some 14) none (.mv (.t 5))), (.op (some 15) none (.cvt .i64 (.t 14))), (.op (some 16) none (.bin .leq (.t 13) (.t
  15)))]) (.cond (.t 16) .skip (.exit 2))) (.block 3 (.reg [(.op (some 17) none (.mv (.t 3))), (.op (some 18) none (.bsl 3 1 [(.int .i64 0)] [(0, (1, (.c (.int .i64
  0))))])), (.op (some 19) none (.app 3 1 8 (.t 17) (.t 18))), (.op (some 3) none (.mv (.t 19)))]))))) (.reg [(.op (some 20) none (.mv (.t 3))), (.op (some 21) none (.mv
  (.t 5))), (.op (some 22) none (.iad 1 (.t 20) (.t 21))), (.op (some 23) none (.ld (.t 22))), (.op (some 24) none (.bin .add (.t 23) (.c (.int .i64 1)))), (.op (some
  25) none (.iad 1 (.t 20) (.t 21))), (.op none none (.st (.t 25) (.t 24)))])))) (.reg [(.op (some 26) none (.bin .add (.t 8) (.c (.int .i64 1)))), (.op (some 8) none
  (.mv (.t 26)))]))))
def s79_0 (S : Sys) (e : Fe) (H : Heap) (Q : Kx) : Prop := run S (.bin .lss (.c (e 8)) (.c (e 7))) [] H fun t9_5 H => jn (sq (fun e7 H => jn (sq (fun e9 H => run S (.bin
  .add (.c (e9 8)) (.c (.int .i64 1))) [] H fun t26_10 H => Q .normal (upd (upd e9 26 t26_10) 8 t26_10) H) Q) fun Q8 => run S (.iad 1 (.c (e7 6)) (.c (e7 8))) [] H fun
  t10_11 H => run S (.ld (.c t10_11)) [] H fun t11_12 H => jn (blk 1 Q8) fun Q13 => jn (sq (fun e15 H => run S (.iad 1 (.c (e15 3)) (.c (e15 5))) [] H fun t22_16 H =>
  run S (.ld (.c t22_16)) [] H fun t23_17 H => run S (.bin .add (.c t23_17) (.c (.int .i64 1))) [] H fun t24_18 H => run S (.iad 1 (.c (e15 3)) (.c (e15 5))) [] H fun
  t25_19 H => run S (.st (.c t25_19) (.c t24_18)) [] H fun _ H => Q13 .normal (upd (upd (upd (upd (upd (upd e15 20 (e15 3)) 21 (e15 5)) 22 t22_16) 23 t23_17) 24 t24_18)
  25 t25_19) H) Q13) fun Q14 => jn (blk 2 Q14) fun Q20 => WL S b79_1 (upd (upd (upd e7 10 t10_11) 11 t11_12) 5 t11_12) H Q20) Q) fun Q6 => cnd t9_5 (fun Q21 => Q21
  .normal (upd e 9 t9_5) H) (fun Q22 => Q22 (.exit 0) (upd e 9 t9_5) H) Q6
theorem h79_0 (S : Sys) (e : Fe) (H : Heap) (Q : Kx) : wpC S b79_0 e H Q = s79_0 S e H Q := by kernel_rfl
theorem l79_0 (S : Sys) {Q : Kx} (I : Nat → Fe → Heap → Prop) (d : Nat) {e0 : Fe} {H : Heap} (h0 : I d e0 H) (hr : ∀ (d : Nat) (e : Fe) (H : Heap), I d e H → s79_0 S e H
  (sq (fun e' H' => ∃ d', d' < d ∧ I d' e' H') Q)) : WL S b79_0 e0 H Q := WL_inv I d h0 fun d e H hi => (h79_0 S e H _).mpr (hr d e H hi)
theorem u79_0 (S : Sys) {Q : Kx} {e : Fe} {H : Heap} (h : s79_0 S e H (sq (fun e' H' => WL S b79_0 e' H' Q) Q)) : WL S b79_0 e H Q := WL_once ((h79_0 S e H _).mpr h)
def s79 (S : Sys) (a0 : Value) (H : Heap) (R : Kv) : Prop := run S (.lenL (.c a0)) [] H fun t7_1 H => jn (sq (fun e3 H => R (e3 3) H) (fn [(.t 2)] R)) fun Q2 => jn (blk
  0 Q2) fun Q4 => WL S b79_0 (upd (upd (upd (upd (upd (Env.get [a0]) 2 (.slice none 0 0)) 3 (.slice none 0 0)) 6 a0) 7 t7_1) 8 (.int .i64 0)) H Q4
theorem h79 (S : Sys) (a0 : Value) (H : Heap) (R : Kv) : wpC S k79.body (Env.get [a0]) H (fn [(.t 2)] R) = s79 S a0 H R := by kernel_rfl
theorem w79 {S : Sys} (hR : S.R 79 = none) (hF : S.F 79 = some k79) (a0 : Value) {H : Heap} {R : Kv} (h : s79 S a0 H R) : Wf S 79 [a0] H R := Wf_sh hR hF ((h79 S a0 H
  R).mpr h)
def s80 (S : Sys) (H : Heap) (R : Kv) : Prop := run S (.call 38 [(.c (.string (bs [1, 4, 97])))]) [] H fun t4_1 H => run S (.call 82 [(.c t4_1), (.c (.int .i64 4))]) []
  H fun t5_2 H => run S (.xt (.c t5_2) 0) [] H fun t6_3 H => run S (.xt (.c t5_2) 1) [] H fun t7_4 H => run S (.call 81 [(.c (.string (bs [97, 97, 97, 97])))]) [] H fun
  t8_5 H => run S (.bin .eql (.c t8_5) (.c (.string (bs [1, 4, 97])))) [] H fun t9_6 H => gd t9_6 true (run S (.mv (.c t7_4)) [] H) H fun t11_7 H => run S (.pick (.c
  t9_6) (.c t11_7) (.c (.bool false))) [] H fun t12_8 H => gd t12_8 true (run S (.mv (.c t6_3)) [] H) H fun t14_9 H => gd t12_8 true (run S (.bin .eql (.c t14_9) (.c
  (.string (bs [97, 97, 97, 97])))) [] H) H fun t15_10 H => run S (.pick (.c t12_8) (.c t15_10) (.c (.bool false))) [] H fun t16_11 H => gd t16_11 true (run S (.call 137
  [(.c (.string (bs [97, 98])))]) [] H) H fun t18_12 H => gd t16_11 true (run S (.bin .eql (.c t18_12) (.c (.string (bs [0, 2, 97, 98])))) [] H) H fun t19_13 H => run S
  (.pick (.c t16_11) (.c t19_13) (.c (.bool false))) [] H fun t20_14 H => R t20_14 H
theorem h80 (S : Sys) (H : Heap) (R : Kv) : wpC S k80.body (Env.get []) H (fn [(.t 0)] R) = s80 S  H R := by kernel_rfl
theorem w80 {S : Sys} (hR : S.R 80 = none) (hF : S.F 80 = some k80) {H : Heap} {R : Kv} (h : s80 S  H R) : Wf S 80 [] H R := Wf_sh hR hF ((h80 S  H R).mpr h)
def s81 (S : Sys) (a0 : Value) (H : Heap) (R : Kv) : Prop := run S (.call 138 [(.c a0)]) [] H fun t7_1 H => jn (sq (fun e3 H => run S (.call 137 [(.c (e3 0))]) [] H fun
  t16_4 H => run S (.call 141 [(.c (e3 0))]) [] H fun t19_5 H => run S (.xt (.c t19_5) 0) [] H fun t20_6 H => run S (.xt (.c t19_5) 1) [] H fun t21_7 H => gd t21_7 true
  (run S (.mv (.c t20_6)) [] H) H fun t24_8 H => gd t21_7 true (run S (.lenS (.c t24_8)) [] H) H fun t25_9 H => gd t21_7 true (run S (.mv (.c t16_4)) [] H) H fun t26_10
  H => gd t21_7 true (run S (.lenS (.c t26_10)) [] H) H fun t27_11 H => gd t21_7 true (run S (.bin .lss (.c t25_9) (.c t27_11)) [] H) H fun t28_12 H => run S (.pick (.c
  t21_7) (.c t28_12) (.c (.bool false))) [] H fun t29_13 H => jn (sq (fun e15 H => R (e15 3) H) (fn [(.t 2)] R)) fun Q14 => cnd t29_13 (fun Q16 => Q16 .ret (upd (upd
  (upd (upd (upd (upd (upd (upd (upd (upd (upd (upd (upd (upd (upd (upd (upd (upd (upd (upd e3 15 (e3 0)) 16 t16_4) 3 t16_4) 18 (e3 0)) 19 t19_5) 17 t19_5) 20 t20_6) 21
  t21_7) 4 t20_6) 5 t21_7) 22 t21_7) 23 t21_7) 24 t24_8) 25 t25_9) 26 t26_10) 27 t27_11) 28 t28_12) 29 t29_13) 30 t20_6) 2 t20_6) H) (fun Q17 => Q17 .normal (upd (upd
  (upd (upd (upd (upd (upd (upd (upd (upd (upd (upd (upd (upd (upd (upd (upd (upd e3 15 (e3 0)) 16 t16_4) 3 t16_4) 18 (e3 0)) 19 t19_5) 17 t19_5) 20 t20_6) 21 t21_7) 4
  t20_6) 5 t21_7) 22 t21_7) 23 t21_7) 24 t24_8) 25 t25_9) 26 t26_10) 27 t27_11) 28 t28_12) 29 t29_13) H) Q14) (fn [(.t 2)] R)) fun Q2 => cnd t7_1 (fun Q18 => run S
  (.lenS (.c a0)) [] H fun t9_20 H => run S (.slS (.c a0) none (some (.c (.int .i64 1)))) [] H fun t12_21 H => run S (.call 139 [(.c (.int .i64 1)), (.c t9_20)]) [] H
  fun t10_22 H => run S (.call 140 [(.c t10_22), (.c t12_21)]) [] H fun t13_23 H => run S (.call 92 [(.c t13_23)]) [] H fun t14_24 H => Q18 .ret (upd (upd (upd (upd (upd
  (upd (upd (upd (upd (upd (upd (Env.get [a0]) 2 (.string (bs []))) 6 a0) 7 t7_1) 8 a0) 9 t9_20) 11 a0) 12 t12_21) 10 t10_22) 13 t13_23) 14 t14_24) 2 t14_24) H) (fun Q19
  => Q19 .normal (upd (upd (upd (Env.get [a0]) 2 (.string (bs []))) 6 a0) 7 t7_1) H) Q2
theorem h81 (S : Sys) (a0 : Value) (H : Heap) (R : Kv) : wpC S k81.body (Env.get [a0]) H (fn [(.t 2)] R) = s81 S a0 H R := by kernel_rfl
theorem w81 {S : Sys} (hR : S.R 81 = none) (hF : S.F 81 = some k81) (a0 : Value) {H : Heap} {R : Kv} (h : s81 S a0 H R) : Wf S 81 [a0] H R := Wf_sh hR hF ((h81 S a0 H
  R).mpr h)
def s82 (S : Sys) (a0 a1 : Value) (H : Heap) (R : Kv) : Prop := run S (.call 109 [(.c a0), (.c (.int .i64 1))]) [] H fun t11_1 H => run S (.mn (.c a1) [(.c (.int .i64
  1048576))]) [] H fun t14_2 H => run S (.call 142 [(.c a0), (.c t14_2)]) [] H fun t15_3 H => run S (.call 111 [(.c a0)]) [] H fun t17_4 H => jn (sq (fun e6 H => jn (sq
  (fun e8 H => R (tup [(.string (bs [])), (.bool false)]) H) (fn [(.t 4), (.t 5)] R)) fun Q7 => run S (.bin .eql (.c (e6 6)) (.c (.int .u64 0))) [] H fun t20_9 H => jn
  (blk 0 Q7) fun Q10 => cnd t20_9 (fun Q11 => run S (.call 110 [(.c (e6 0)), (.c (e6 7))]) [] H fun t23_13 H => run S (.call 111 [(.c (e6 0))]) [] H fun t26_14 H => run
  S (.un .not (.c t26_14)) [] H fun t27_15 H => Q11 .ret (upd (upd (upd (upd (upd (upd (upd (upd (upd (upd (upd (upd (upd e6 18 (e6 6)) 20 t20_9) 19 t20_9) 21 (e6 0)) 22
  (e6 7)) 23 t23_13) 8 t23_13) 24 t23_13) 25 (e6 0)) 26 t26_14) 27 t27_15) 4 t23_13) 5 t27_15) H) (fun Q12 => run S (.bin .eql (.c (e6 6)) (.c (.int .u64 1))) [] H fun
  t29_16 H => cnd t29_16 (fun Q17 => run S (.call 110 [(.c (e6 0)), (.c (.int .i64 1))]) [] H fun t31_19 H => run S (.call 111 [(.c (e6 0))]) [] H fun t33_20 H => jn (sq
  (fun e22 H => run S (.call 143 [(.c (e22 9)), (.c (e22 7))]) [] H fun t36_23 H => Q17 .ret (upd (upd (upd (upd (upd e22 34 (e22 9)) 35 (e22 7)) 36 t36_23) 4 t36_23) 5
  (.bool true)) H) Q17) fun Q21 => cnd t33_20 (fun Q24 => Q24 .ret (upd (upd (upd (upd (upd (upd (upd (upd (upd (upd (upd (upd e6 18 (e6 6)) 20 t20_9) 19 t20_9) 29
  t29_16) 28 t29_16) 30 (e6 0)) 31 t31_19) 9 t31_19) 32 (e6 0)) 33 t33_20) 4 (.string (bs []))) 5 (.bool false)) H) (fun Q25 => Q25 .normal (upd (upd (upd (upd (upd (upd
  (upd (upd (upd (upd e6 18 (e6 6)) 20 t20_9) 19 t20_9) 29 t29_16) 28 t29_16) 30 (e6 0)) 31 t31_19) 9 t31_19) 32 (e6 0)) 33 t33_20) H) Q21) (fun Q18 => run S (.bin .eql
  (.c (e6 6)) (.c (.int .u64 2))) [] H fun t38_26 H => cnd t38_26 (fun Q27 => run S (.call 144 [(.c (e6 0)), (.c (e6 7))]) [] H fun t41_29 H => run S (.xt (.c t41_29) 0)
  [] H fun t42_30 H => run S (.xt (.c t41_29) 1) [] H fun t43_31 H => Q27 .ret (upd (upd (upd (upd (upd (upd (upd (upd (upd (upd (upd (upd (upd (upd e6 18 (e6 6)) 20
  t20_9) 19 t20_9) 29 t29_16) 28 t29_16) 38 t38_26) 37 t38_26) 39 (e6 0)) 40 (e6 7)) 41 t41_29) 42 t42_30) 43 t43_31) 4 t42_30) 5 t43_31) H) (fun Q28 => Q28 .normal (upd
  (upd (upd (upd (upd (upd (upd e6 18 (e6 6)) 20 t20_9) 19 t20_9) 29 t29_16) 28 t29_16) 38 t38_26) 37 t38_26) H) Q18) Q12) Q10) (fn [(.t 4), (.t 5)] R)) fun Q5 => cnd
  t17_4 (fun Q32 => Q32 .ret (upd (upd (upd (upd (upd (upd (upd (upd (upd (upd (upd (upd (upd (upd (Env.get [a0, a1]) 4 (.string (bs []))) 5 (.bool false)) 10 a0) 11
  t11_1) 6 t11_1) 12 a0) 13 a1) 14 t14_2) 15 t15_3) 7 t15_3) 16 a0) 17 t17_4) 4 (.string (bs []))) 5 (.bool false)) H) (fun Q33 => Q33 .normal (upd (upd (upd (upd (upd
  (upd (upd (upd (upd (upd (upd (upd (Env.get [a0, a1]) 4 (.string (bs []))) 5 (.bool false)) 10 a0) 11 t11_1) 6 t11_1) 12 a0) 13 a1) 14 t14_2) 15 t15_3) 7 t15_3) 16 a0)
  17 t17_4) H) Q5
theorem h82 (S : Sys) (a0 a1 : Value) (H : Heap) (R : Kv) : wpC S k82.body (Env.get [a0, a1]) H (fn [(.t 4), (.t 5)] R) = s82 S a0 a1 H R := by kernel_rfl
theorem w82 {S : Sys} (hR : S.R 82 = none) (hF : S.F 82 = some k82) (a0 a1 : Value) {H : Heap} {R : Kv} (h : s82 S a0 a1 H R) : Wf S 82 [a0, a1] H R := Wf_sh hR hF ((h82
  S a0 a1 H R).mpr h)
def b87_0 : KCode := (.seq (.seq (.reg [(.op (some 4) none (.mv (.t 0))), (.op (some 5) none (.bin .geq (.t 4) (.c (.int .u64 128))))]) (.cond (.t 5) .skip (.exit 0)))
  (.block 1 (.seq (.reg [(.op (some 6) none (.mv (.t 3))), (.op (some 7) none (.mv (.t 0))), (.op (some 8) none (.bin .rem (.t 7) (.c (.int .u64 128)))), (.op (some 9)
  none (.bin .add (.t 8) (.c (.int .u64 128)))), (.op (some 10) none (.cvt .u8 (.t 9))), (.op (some 11) none (.bsl 5 1 [(.int .u8 0)] [(0, (1, (.t 10)))])), (.op (some
  12) none (.b2s 5 (.t 11))), (.op (some 13) none (.bin .add (.t 6) (.t 12))), (.op (some 3) none (.mv (.t 13)))]) (.reg [(.op (some 14) none (.mv (.t 0))), (.op (some
  15) none (.bin .quo (.t 14) (.c (.int .u64 128)))), (.op (some 0) none (.mv (.t 15)))]))))
def s87_0 (S : Sys) (e : Fe) (H : Heap) (Q : Kx) : Prop := run S (.bin .geq (.c (e 0)) (.c (.int .u64 128))) [] H fun t5_8 H => jn (sq (fun e10 H => run S (.bin .rem (.c
  (e10 0)) (.c (.int .u64 128))) [] H fun t8_11 H => run S (.bin .add (.c t8_11) (.c (.int .u64 128))) [] H fun t9_12 H => run S (.cvt .u8 (.c t9_12)) [] H fun t10_13 H
  => run S (.bsl 5 1 [(.int .u8 0)] [(0, (1, (.c t10_13)))]) [] H fun t11_14 H => run S (.b2s 5 (.c t11_14)) [] H fun t12_15 H => run S (.bin .add (.c (e10 3)) (.c
  t12_15)) [] H fun t13_16 H => run S (.bin .quo (.c (e10 0)) (.c (.int .u64 128))) [] H fun t15_17 H => Q .normal (upd (upd (upd (upd (upd (upd (upd (upd (upd (upd (upd
  (upd e10 6 (e10 3)) 7 (e10 0)) 8 t8_11) 9 t9_12) 10 t10_13) 11 t11_14) 12 t12_15) 13 t13_16) 3 t13_16) 14 (e10 0)) 15 t15_17) 0 t15_17) H) Q) fun Q9 => cnd t5_8 (fun
  Q18 => Q18 .normal (upd (upd e 4 (e 0)) 5 t5_8) H) (fun Q19 => Q19 (.exit 0) (upd (upd e 4 (e 0)) 5 t5_8) H) Q9
theorem h87_0 (S : Sys) (e : Fe) (H : Heap) (Q : Kx) : wpC S b87_0 e H Q = s87_0 S e H Q := by kernel_rfl
theorem l87_0 (S : Sys) {Q : Kx} (I : Nat → Fe → Heap → Prop) (d : Nat) {e0 : Fe} {H : Heap} (h0 : I d e0 H) (hr : ∀ (d : Nat) (e : Fe) (H : Heap), I d e H → s87_0 S e H
  (sq (fun e' H' => ∃ d', d' < d ∧ I d' e' H') Q)) : WL S b87_0 e0 H Q := WL_inv I d h0 fun d e H hi => (h87_0 S e H _).mpr (hr d e H hi)
theorem u87_0 (S : Sys) {Q : Kx} {e : Fe} {H : Heap} (h : s87_0 S e H (sq (fun e' H' => WL S b87_0 e' H' Q) Q)) : WL S b87_0 e H Q := WL_once ((h87_0 S e H _).mpr h)
def s87 (S : Sys) (a0 : Value) (H : Heap) (R : Kv) : Prop := jn (sq (fun e2 H => run S (.cvt .u8 (.c (e2 0))) [] H fun t18_3 H => run S (.bsl 5 1 [(.int .u8 0)] [(0, (1,
  (.c t18_3)))]) [] H fun t19_4 H => run S (.b2s 5 (.c t19_4)) [] H fun t20_5 H => run S (.bin .add (.c (e2 3)) (.c t20_5)) [] H fun t21_6 H => R t21_6 H) (fn [(.t 2)]
  R)) fun Q1 => jn (blk 0 Q1) fun Q7 => WL S b87_0 (upd (upd (Env.get [a0]) 2 (.string (bs []))) 3 (.string (bs []))) H Q7
theorem h87 (S : Sys) (a0 : Value) (H : Heap) (R : Kv) : wpC S k87.body (Env.get [a0]) H (fn [(.t 2)] R) = s87 S a0 H R := by kernel_rfl
theorem w87 {S : Sys} (hR : S.R 87 = none) (hF : S.F 87 = some k87) (a0 : Value) {H : Heap} {R : Kv} (h : s87 S a0 H R) : Wf S 87 [a0] H R := Wf_sh hR hF ((h87 S a0 H
  R).mpr h)
def b89_0 : KCode := (.seq (.reg [(.op (some 12) none (.bin .lss (.t 11) (.t 10)))]) (.seq (.cond (.t 12) .skip (.exit 0)) (.seq (.block 1 (.seq (.reg [(.op (some 13)
  none (.mv (.t 0))), (.op (some 14) none (.mv (.t 0))), (.op (some 15) none (.nck (.t 14))), (.op (some 16) none (.fad 0 (.t 15))), (.op (some 17) none (.ld (.t 16))),
  (.op (some 18) none (.mv (.t 1))), (.op (some 19) none (.cvt .u8 (.t 18))), (.op (some 20) none (.bsl 5 1 [(.int .u8 0)] [(0, (1, (.t 19)))])), (.op (some 21) none
  (.app 5 1 1 (.t 17) (.t 20))), (.op (some 22) none (.nck (.t 13))), (.op (some 23) none (.fad 0 (.t 22))), (.op none none (.st (.t 23) (.t 21)))]) (.reg [(.op (some
  24) none (.mv (.t 1))), (.op (some 25) none (.bin .shr (.t 24) (.c (.int .u64 8)))), (.op (some 1) none (.mv (.t 25)))]))) (.reg [(.op (some 26) none (.bin .add (.t
  11) (.c (.int .i64 1)))), (.op (some 11) none (.mv (.t 26)))]))))
def s89_0 (S : Sys) (e : Fe) (H : Heap) (Q : Kx) : Prop := run S (.bin .lss (.c (e 11)) (.c (e 10))) [] H fun t12_10 H => jn (sq (fun e12 H => jn (sq (fun e14 H => run S
  (.bin .add (.c (e14 11)) (.c (.int .i64 1))) [] H fun t26_15 H => Q .normal (upd (upd e14 26 t26_15) 11 t26_15) H) Q) fun Q13 => run S (.nck (.c (e12 0))) [] H fun
  t15_16 H => run S (.fad 0 (.c t15_16)) [] H fun t16_17 H => run S (.ld (.c t16_17)) [] H fun t17_18 H => run S (.cvt .u8 (.c (e12 1))) [] H fun t19_19 H => run S (.bsl
  5 1 [(.int .u8 0)] [(0, (1, (.c t19_19)))]) [] H fun t20_20 H => run S (.app 5 1 1 (.c t17_18) (.c t20_20)) [] H fun t21_21 H => run S (.nck (.c (e12 0))) [] H fun
  t22_22 H => run S (.fad 0 (.c t22_22)) [] H fun t23_23 H => run S (.st (.c t23_23) (.c t21_21)) [] H fun _ H => run S (.bin .shr (.c (e12 1)) (.c (.int .u64 8))) [] H
  fun t25_24 H => Q13 .normal (upd (upd (upd (upd (upd (upd (upd (upd (upd (upd (upd (upd (upd (upd e12 13 (e12 0)) 14 (e12 0)) 15 t15_16) 16 t16_17) 17 t17_18) 18 (e12
  1)) 19 t19_19) 20 t20_20) 21 t21_21) 22 t22_22) 23 t23_23) 24 (e12 1)) 25 t25_24) 1 t25_24) H) Q) fun Q11 => cnd t12_10 (fun Q25 => Q25 .normal (upd e 12 t12_10) H)
  (fun Q26 => Q26 (.exit 0) (upd e 12 t12_10) H) Q11
theorem h89_0 (S : Sys) (e : Fe) (H : Heap) (Q : Kx) : wpC S b89_0 e H Q = s89_0 S e H Q := by kernel_rfl
theorem l89_0 (S : Sys) {Q : Kx} (I : Nat → Fe → Heap → Prop) (d : Nat) {e0 : Fe} {H : Heap} (h0 : I d e0 H) (hr : ∀ (d : Nat) (e : Fe) (H : Heap), I d e H → s89_0 S e H
  (sq (fun e' H' => ∃ d', d' < d ∧ I d' e' H') Q)) : WL S b89_0 e0 H Q := WL_inv I d h0 fun d e H hi => (h89_0 S e H _).mpr (hr d e H hi)
theorem u89_0 (S : Sys) {Q : Kx} {e : Fe} {H : Heap} (h : s89_0 S e H (sq (fun e' H' => WL S b89_0 e' H' Q) Q)) : WL S b89_0 e H Q := WL_once ((h89_0 S e H _).mpr h)
def s89 (S : Sys) (a0 a1 a2 : Value) (H : Heap) (R : Kv) : Prop := run S (.eqv .ptr false (.c a0) (.c (.pointer none))) [] H fun t8_1 H => jn (sq (fun e3 H => run S
  (.call 147 [(.c (e3 2))]) [] H fun t10_4 H => jn (sq (fun e6 H => R (e6 0) H) (fn [(.t 6)] R)) fun Q5 => jn (blk 0 Q5) fun Q7 => WL S b89_0 (upd (upd (upd e3 9 (e3 2))
  10 t10_4) 11 (.int .i64 0)) H Q7) (fn [(.t 6)] R)) fun Q2 => cnd t8_1 (fun Q8 => Q8 .ret (upd (upd (upd (upd (Env.get [a0, a1, a2]) 6 (.pointer none)) 7 a0) 8 t8_1) 6
  (.pointer none)) H) (fun Q9 => Q9 .normal (upd (upd (upd (Env.get [a0, a1, a2]) 6 (.pointer none)) 7 a0) 8 t8_1) H) Q2
theorem h89 (S : Sys) (a0 a1 a2 : Value) (H : Heap) (R : Kv) : wpC S k89.body (Env.get [a0, a1, a2]) H (fn [(.t 6)] R) = s89 S a0 a1 a2 H R := by kernel_rfl
theorem w89 {S : Sys} (hR : S.R 89 = none) (hF : S.F 89 = some k89) (a0 a1 a2 : Value) {H : Heap} {R : Kv} (h : s89 S a0 a1 a2 H R) : Wf S 89 [a0, a1, a2] H R := Wf_sh
  hR hF ((h89 S a0 a1 a2 H R).mpr h)
def b90_0 : KCode := (.seq (.seq (.reg [(.op (some 7) none (.mv (.t 1))), (.op (some 8) none (.bin .gtr (.t 7) (.c (.int .u64 127))))]) (.cond (.t 8) .skip (.exit 0)))
  (.block 1 (.seq (.reg [(.op (some 9) none (.mv (.t 0))), (.op (some 10) none (.mv (.t 0))), (.op (some 11) none (.nck (.t 10))), (.op (some 12) none (.fad 0 (.t 11))),
  (.op (some 13) none (.ld (.t 12))), (.op (some 14) none (.mv (.t 1))), (.op (some 15) none (.cvt .u8 (.t 14))), (.op (some 16) none (.bin .or (.t 15) (.c (.int .u8
  128)))), (.op (some 17) none (.bsl 5 1 [(.int .u8 0)] [(0, (1, (.t 16)))])), (.op (some 18) none (.app 5 1 1 (.t 13) (.t 17))), (.op (some 19) none (.nck (.t 9))),
  (.op (some 20) none (.fad 0 (.t 19))), (.op none none (.st (.t 20) (.t 18)))]) (.reg [(.op (some 21) none (.mv (.t 1))), (.op (some 22) none (.bin .shr (.t 21) (.c
  (.int .u64 7)))), (.op (some 1) none (.mv (.t 22)))]))))
def s90_0 (S : Sys) (e : Fe) (H : Heap) (Q : Kx) : Prop := run S (.bin .gtr (.c (e 1)) (.c (.int .u64 127))) [] H fun t8_17 H => jn (sq (fun e19 H => run S (.nck (.c
  (e19 0))) [] H fun t11_20 H => run S (.fad 0 (.c t11_20)) [] H fun t12_21 H => run S (.ld (.c t12_21)) [] H fun t13_22 H => run S (.cvt .u8 (.c (e19 1))) [] H fun
  t15_23 H => run S (.bin .or (.c t15_23) (.c (.int .u8 128))) [] H fun t16_24 H => run S (.bsl 5 1 [(.int .u8 0)] [(0, (1, (.c t16_24)))]) [] H fun t17_25 H => run S
  (.app 5 1 1 (.c t13_22) (.c t17_25)) [] H fun t18_26 H => run S (.nck (.c (e19 0))) [] H fun t19_27 H => run S (.fad 0 (.c t19_27)) [] H fun t20_28 H => run S (.st (.c
  t20_28) (.c t18_26)) [] H fun _ H => run S (.bin .shr (.c (e19 1)) (.c (.int .u64 7))) [] H fun t22_29 H => Q .normal (upd (upd (upd (upd (upd (upd (upd (upd (upd (upd
  (upd (upd (upd (upd (upd e19 9 (e19 0)) 10 (e19 0)) 11 t11_20) 12 t12_21) 13 t13_22) 14 (e19 1)) 15 t15_23) 16 t16_24) 17 t17_25) 18 t18_26) 19 t19_27) 20 t20_28) 21
  (e19 1)) 22 t22_29) 1 t22_29) H) Q) fun Q18 => cnd t8_17 (fun Q30 => Q30 .normal (upd (upd e 7 (e 1)) 8 t8_17) H) (fun Q31 => Q31 (.exit 0) (upd (upd e 7 (e 1)) 8
  t8_17) H) Q18
theorem h90_0 (S : Sys) (e : Fe) (H : Heap) (Q : Kx) : wpC S b90_0 e H Q = s90_0 S e H Q := by kernel_rfl
theorem l90_0 (S : Sys) {Q : Kx} (I : Nat → Fe → Heap → Prop) (d : Nat) {e0 : Fe} {H : Heap} (h0 : I d e0 H) (hr : ∀ (d : Nat) (e : Fe) (H : Heap), I d e H → s90_0 S e H
  (sq (fun e' H' => ∃ d', d' < d ∧ I d' e' H') Q)) : WL S b90_0 e0 H Q := WL_inv I d h0 fun d e H hi => (h90_0 S e H _).mpr (hr d e H hi)
theorem u90_0 (S : Sys) {Q : Kx} {e : Fe} {H : Heap} (h : s90_0 S e H (sq (fun e' H' => WL S b90_0 e' H' Q) Q)) : WL S b90_0 e H Q := WL_once ((h90_0 S e H _).mpr h)
def s90 (S : Sys) (a0 a1 : Value) (H : Heap) (R : Kv) : Prop := run S (.eqv .ptr false (.c a0) (.c (.pointer none))) [] H fun t6_1 H => jn (sq (fun e3 H => jn (sq (fun
  e5 H => run S (.nck (.c (e5 0))) [] H fun t25_6 H => run S (.fad 0 (.c t25_6)) [] H fun t26_7 H => run S (.ld (.c t26_7)) [] H fun t27_8 H => run S (.cvt .u8 (.c (e5
  1))) [] H fun t29_9 H => run S (.bsl 5 1 [(.int .u8 0)] [(0, (1, (.c t29_9)))]) [] H fun t30_10 H => run S (.app 5 1 1 (.c t27_8) (.c t30_10)) [] H fun t31_11 H => run
  S (.nck (.c (e5 0))) [] H fun t32_12 H => run S (.fad 0 (.c t32_12)) [] H fun t33_13 H => run S (.st (.c t33_13) (.c t31_11)) [] H fun _ H => R (e5 0) H) (fn [(.t 4)]
  R)) fun Q4 => jn (blk 0 Q4) fun Q14 => WL S b90_0 e3 H Q14) (fn [(.t 4)] R)) fun Q2 => cnd t6_1 (fun Q15 => Q15 .ret (upd (upd (upd (upd (Env.get [a0, a1]) 4 (.pointer
  none)) 5 a0) 6 t6_1) 4 (.pointer none)) H) (fun Q16 => Q16 .normal (upd (upd (upd (Env.get [a0, a1]) 4 (.pointer none)) 5 a0) 6 t6_1) H) Q2
theorem h90 (S : Sys) (a0 a1 : Value) (H : Heap) (R : Kv) : wpC S k90.body (Env.get [a0, a1]) H (fn [(.t 4)] R) = s90 S a0 a1 H R := by kernel_rfl
theorem w90 {S : Sys} (hR : S.R 90 = none) (hF : S.F 90 = some k90) (a0 a1 : Value) {H : Heap} {R : Kv} (h : s90 S a0 a1 H R) : Wf S 90 [a0, a1] H R := Wf_sh hR hF ((h90
  S a0 a1 H R).mpr h)
def s91 (S : Sys) (a0 a1 : Value) (H : Heap) (R : Kv) : Prop := run S (.lenS (.c a1)) [] H fun t7_1 H => run S (.cvt .u64 (.c t7_1)) [] H fun t8_2 H => run S (.call 90
  [(.c a0), (.c t8_2)]) [] H fun t9_3 H => run S (.call 140 [(.c t9_3), (.c a1)]) [] H fun t11_4 H => R t11_4 H
theorem h91 (S : Sys) (a0 a1 : Value) (H : Heap) (R : Kv) : wpC S k91.body (Env.get [a0, a1]) H (fn [(.t 4)] R) = s91 S a0 a1 H R := by kernel_rfl
theorem w91 {S : Sys} (hR : S.R 91 = none) (hF : S.F 91 = some k91) (a0 a1 : Value) {H : Heap} {R : Kv} (h : s91 S a0 a1 H R) : Wf S 91 [a0, a1] H R := Wf_sh hR hF ((h91
  S a0 a1 H R).mpr h)
def s92 (S : Sys) (a0 : Value) (H : Heap) (R : Kv) : Prop := run S (.eqv .ptr false (.c a0) (.c (.pointer none))) [] H fun t4_1 H => jn (sq (fun e3 H => run S (.nck (.c
  (e3 0))) [] H fun t6_4 H => run S (.fad 0 (.c t6_4)) [] H fun t7_5 H => run S (.ld (.c t7_5)) [] H fun t8_6 H => run S (.b2s 5 (.c t8_6)) [] H fun t9_7 H => R t9_7 H)
  (fn [(.t 2)] R)) fun Q2 => cnd t4_1 (fun Q8 => Q8 .ret (upd (upd (upd (upd (Env.get [a0]) 2 (.string (bs []))) 3 a0) 4 t4_1) 2 (.string (bs []))) H) (fun Q9 => Q9
  .normal (upd (upd (upd (Env.get [a0]) 2 (.string (bs []))) 3 a0) 4 t4_1) H) Q2
theorem h92 (S : Sys) (a0 : Value) (H : Heap) (R : Kv) : wpC S k92.body (Env.get [a0]) H (fn [(.t 2)] R) = s92 S a0 H R := by kernel_rfl
theorem w92 {S : Sys} (hR : S.R 92 = none) (hF : S.F 92 = some k92) (a0 : Value) {H : Heap} {R : Kv} (h : s92 S a0 H R) : Wf S 92 [a0] H R := Wf_sh hR hF ((h92 S a0 H
  R).mpr h)
def s93 (S : Sys) (a0 : Value) (H : Heap) (R : Kv) : Prop := run S (.alloc 34 [(.int .i64 0), (.int .i64 0), (.int .i64 0), (.bool false), (.string (bs []))]) [] H fun
  t2_1 H => run S (.call 109 [(.c a0), (.c (.int .i64 1))]) [] H fun t7_2 H => run S (.cvt .i64 (.c t7_2)) [] H fun t8_3 H => run S (.bin .and (.c t8_3) (.c (.int .i64
  15))) [] H fun t10_4 H => run S (.bin .and (.c t8_3) (.c (.int .i64 16))) [] H fun t12_5 H => run S (.bin .neq (.c t12_5) (.c (.int .i64 0))) [] H fun t13_6 H => run S
  (.call 109 [(.c a0), (.c (.int .i64 1))]) [] H fun t15_7 H => run S (.cvt .i64 (.c t15_7)) [] H fun t16_8 H => run S (.call 142 [(.c a0), (.c (.int .i64 1073741824))])
  [] H fun t18_9 H => run S (.call 148 [(.c a0), (.c (.int .i64 600))]) [] H fun t20_10 H => run S (.build [(.int .i64 0), (.int .i64 0), (.int .i64 0), (.bool false),
  (.string (bs []))] [(0, (1, (.c t10_4))), (3, (1, (.c t13_6))), (1, (1, (.c t16_8))), (2, (1, (.c t18_9))), (4, (1, (.c t20_10)))]) [] H fun t21_11 H => run S (.alloc
  34 [(.int .i64 0), (.int .i64 0), (.int .i64 0), (.bool false), (.string (bs []))]) [] H fun t5_12 H => run S (.stn 5 (.c t5_12) (.c t21_11)) [] H fun _ H => run S
  (.ldn 5 (.c t5_12)) [] H fun t22_13 H => run S (.call 111 [(.c a0)]) [] H fun t24_14 H => ck (kop (.ldn 5 (.c t5_12)) [] H) t22_13 (run S (.un .not (.c t24_14)) [] H
  fun t25_15 H => gd t25_15 true (run S (.mv (.c t8_3)) [] H) H fun t27_16 H => gd t25_15 true (run S (.bin .leq (.c t27_16) (.c (.int .i64 31))) [] H) H fun t28_17 H =>
  run S (.pick (.c t25_15) (.c t28_17) (.c (.bool false))) [] H fun t29_18 H => gd t29_18 true (run S (.ldn 5 (.c t5_12)) [] H) H fun t31_19 H => gd t29_18 true (run S
  (.call 24 [(.c t31_19)]) [] H) H fun t32_20 H => ck (kop (.ldn 5 (.c t5_12)) [] H) t22_13 (run S (.pick (.c t29_18) (.c t32_20) (.c (.bool false))) [] H fun t33_21 H
  => run S (.stn 5 (.c t2_1) (.c t22_13)) [] H fun _ H => (fn [(.cn 2 5), (.t 3)] R) .ret (upd (upd (upd (upd (upd (upd (upd (upd (upd (upd (upd (upd (upd (upd (upd (upd
  (upd (upd (upd (upd (upd (upd (upd (upd (upd (upd (upd (upd (upd (upd (upd (upd (upd (Env.get [a0]) 2 t2_1) 3 (.bool false)) 6 a0) 7 t7_2) 8 t8_3) 4 t8_3) 9 t8_3) 10
  t10_4) 11 t8_3) 12 t12_5) 13 t13_6) 14 a0) 15 t15_7) 16 t16_8) 17 a0) 18 t18_9) 19 a0) 20 t20_10) 21 t21_11) 5 t5_12) 22 t22_13) 23 a0) 24 t24_14) 25 t25_15) 26
  t25_15) 27 t27_16) 28 t28_17) 29 t29_18) 30 t29_18) 31 t31_19) 32 t32_20) 33 t33_21) 3 t33_21) H))
theorem h93 (S : Sys) (a0 : Value) (H : Heap) (R : Kv) : wpC S k93.body (Env.get [a0]) H (fn [(.cn 2 5), (.t 3)] R) = s93 S a0 H R := by kernel_rfl
theorem w93 {S : Sys} (hR : S.R 93 = none) (hF : S.F 93 = some k93) (a0 : Value) {H : Heap} {R : Kv} (h : s93 S a0 H R) : Wf S 93 [a0] H R := Wf_sh hR hF ((h93 S a0 H
  R).mpr h)
def b94_1 : KCode := (.seq (.seq (.reg [(.op (some 7) none (.mv (.t 4))), (.op (some 8) none (.mv (.t 0))), (.op (some 9) none (.lenS (.t 8))), (.op (some 10) none (.bin
  .lss (.t 7) (.t 9))), (.op (some 11) none (.mv (.t 10))), (.op (some 12) (some (11, true)) (.mv (.t 0))), (.op (some 13) (some (11, true)) (.mv (.t 4))), (.op (some
  14) (some (11, true)) (.idS (.t 12) (.t 13))), (.op (some 15) (some (11, true)) (.bin .geq (.t 14) (.c (.int .u8 128)))), (.op (some 16) none (.pick (.t 11) (.t 15)
  (.c (.bool false))))]) (.cond (.t 16) .skip (.exit 0))) (.block 1 (.reg [(.op (some 17) none (.mv (.t 4))), (.op (some 18) none (.bin .add (.t 17) (.c (.int .i64
  1)))), (.op (some 4) none (.mv (.t 18)))])))
def s94_1 (S : Sys) (e : Fe) (H : Heap) (Q : Kx) : Prop := run S (.lenS (.c (e 0))) [] H fun t9_44 H => run S (.bin .lss (.c (e 4)) (.c t9_44)) [] H fun t10_45 H => gd
  t10_45 true (run S (.mv (.c (e 0))) [] H) H fun t12_46 H => gd t10_45 true (run S (.mv (.c (e 4))) [] H) H fun t13_47 H => gd t10_45 true (run S (.idS (.c t12_46) (.c
  t13_47)) [] H) H fun t14_48 H => gd t10_45 true (run S (.bin .geq (.c t14_48) (.c (.int .u8 128))) [] H) H fun t15_49 H => run S (.pick (.c t10_45) (.c t15_49) (.c
  (.bool false))) [] H fun t16_50 H => jn (sq (fun e52 H => run S (.bin .add (.c (e52 4)) (.c (.int .i64 1))) [] H fun t18_53 H => Q .normal (upd (upd (upd e52 17 (e52
  4)) 18 t18_53) 4 t18_53) H) Q) fun Q51 => cnd t16_50 (fun Q54 => Q54 .normal (upd (upd (upd (upd (upd (upd (upd (upd (upd (upd e 7 (e 4)) 8 (e 0)) 9 t9_44) 10 t10_45)
  11 t10_45) 12 t12_46) 13 t13_47) 14 t14_48) 15 t15_49) 16 t16_50) H) (fun Q55 => Q55 (.exit 0) (upd (upd (upd (upd (upd (upd (upd (upd (upd (upd e 7 (e 4)) 8 (e 0)) 9
  t9_44) 10 t10_45) 11 t10_45) 12 t12_46) 13 t13_47) 14 t14_48) 15 t15_49) 16 t16_50) H) Q51
theorem h94_1 (S : Sys) (e : Fe) (H : Heap) (Q : Kx) : wpC S b94_1 e H Q = s94_1 S e H Q := by kernel_rfl
theorem l94_1 (S : Sys) {Q : Kx} (I : Nat → Fe → Heap → Prop) (d : Nat) {e0 : Fe} {H : Heap} (h0 : I d e0 H) (hr : ∀ (d : Nat) (e : Fe) (H : Heap), I d e H → s94_1 S e H
  (sq (fun e' H' => ∃ d', d' < d ∧ I d' e' H') Q)) : WL S b94_1 e0 H Q := WL_inv I d h0 fun d e H hi => (h94_1 S e H _).mpr (hr d e H hi)
theorem u94_1 (S : Sys) {Q : Kx} {e : Fe} {H : Heap} (h : s94_1 S e H (sq (fun e' H' => WL S b94_1 e' H' Q) Q)) : WL S b94_1 e H Q := WL_once ((h94_1 S e H _).mpr h)
def b94_0 : KCode := (.seq (.seq (.reg [(.op (some 28) none (.mv (.t 6))), (.op (some 29) none (.bin .geq (.t 28) (.c (.int .i64 0))))]) (.cond (.t 29) .skip (.exit 2)))
  (.seq (.block 3 (.seq (.seq (.reg [(.op (some 32) none (.mv (.t 5))), (.op (some 33) none (.bin .gtr (.t 32) (.c (.int .u64 144115188075855871))))]) (.cond (.t 33)
  (.seq (.reg [(.op (some 2) none (.mv (.c (.int .u64 0)))), (.op (some 3) none (.mv (.c (.int .i64 0))))]) .ret) .skip)) (.reg [(.op (some 34) none (.mv (.t 5))), (.op
  (some 35) none (.bin .mul (.t 34) (.c (.int .u64 128)))), (.op (some 36) none (.mv (.t 0))), (.op (some 37) none (.mv (.t 6))), (.op (some 38) none (.idS (.t 36) (.t
  37))), (.op (some 39) none (.bin .rem (.t 38) (.c (.int .u8 128)))), (.op (some 40) none (.cvt .u64 (.t 39))), (.op (some 41) none (.bin .add (.t 35) (.t 40))), (.op
  (some 5) none (.mv (.t 41)))]))) (.reg [(.op (some 30) none (.mv (.t 6))), (.op (some 31) none (.bin .sub (.t 30) (.c (.int .i64 1)))), (.op (some 6) none (.mv (.t
  31)))])))
def s94_0 (S : Sys) (e : Fe) (H : Heap) (Q : Kx) : Prop := run S (.bin .geq (.c (e 6)) (.c (.int .i64 0))) [] H fun t29_25 H => jn (sq (fun e27 H => jn (sq (fun e29 H =>
  run S (.bin .sub (.c (e29 6)) (.c (.int .i64 1))) [] H fun t31_30 H => Q .normal (upd (upd (upd e29 30 (e29 6)) 31 t31_30) 6 t31_30) H) Q) fun Q28 => run S (.bin .gtr
  (.c (e27 5)) (.c (.int .u64 144115188075855871))) [] H fun t33_31 H => jn (blk 3 Q28) fun Q32 => jn (sq (fun e34 H => run S (.bin .mul (.c (e34 5)) (.c (.int .u64
  128))) [] H fun t35_35 H => run S (.idS (.c (e34 0)) (.c (e34 6))) [] H fun t38_36 H => run S (.bin .rem (.c t38_36) (.c (.int .u8 128))) [] H fun t39_37 H => run S
  (.cvt .u64 (.c t39_37)) [] H fun t40_38 H => run S (.bin .add (.c t35_35) (.c t40_38)) [] H fun t41_39 H => Q32 .normal (upd (upd (upd (upd (upd (upd (upd (upd (upd
  e34 34 (e34 5)) 35 t35_35) 36 (e34 0)) 37 (e34 6)) 38 t38_36) 39 t39_37) 40 t40_38) 41 t41_39) 5 t41_39) H) Q32) fun Q33 => cnd t33_31 (fun Q40 => Q40 .ret (upd (upd
  (upd (upd e27 32 (e27 5)) 33 t33_31) 2 (.int .u64 0)) 3 (.int .i64 0)) H) (fun Q41 => Q41 .normal (upd (upd e27 32 (e27 5)) 33 t33_31) H) Q33) Q) fun Q26 => cnd t29_25
  (fun Q42 => Q42 .normal (upd (upd e 28 (e 6)) 29 t29_25) H) (fun Q43 => Q43 (.exit 2) (upd (upd e 28 (e 6)) 29 t29_25) H) Q26
theorem h94_0 (S : Sys) (e : Fe) (H : Heap) (Q : Kx) : wpC S b94_0 e H Q = s94_0 S e H Q := by kernel_rfl
theorem l94_0 (S : Sys) {Q : Kx} (I : Nat → Fe → Heap → Prop) (d : Nat) {e0 : Fe} {H : Heap} (h0 : I d e0 H) (hr : ∀ (d : Nat) (e : Fe) (H : Heap), I d e H → s94_0 S e H
  (sq (fun e' H' => ∃ d', d' < d ∧ I d' e' H') Q)) : WL S b94_0 e0 H Q := WL_inv I d h0 fun d e H hi => (h94_0 S e H _).mpr (hr d e H hi)
theorem u94_0 (S : Sys) {Q : Kx} {e : Fe} {H : Heap} (h : s94_0 S e H (sq (fun e' H' => WL S b94_0 e' H' Q) Q)) : WL S b94_0 e H Q := WL_once ((h94_0 S e H _).mpr h)
def s94 (S : Sys) (a0 : Value) (H : Heap) (R : Kv) : Prop := jn (sq (fun e2 H => run S (.lenS (.c (e2 0))) [] H fun t21_3 H => run S (.bin .eql (.c (e2 4)) (.c t21_3))
  [] H fun t22_4 H => gd t22_4 false (run S (.mv (.c (e2 4))) [] H) H fun t24_5 H => gd t22_4 false (run S (.bin .gtr (.c t24_5) (.c (.int .i64 9))) [] H) H fun t25_6 H
  => run S (.pick (.c t22_4) (.c (.bool true)) (.c t25_6)) [] H fun t26_7 H => jn (sq (fun e9 H => jn (sq (fun e11 H => run S (.bin .add (.c (e11 4)) (.c (.int .i64 1)))
  [] H fun t46_12 H => run S (.slS (.c (e11 0)) none (some (.c t46_12))) [] H fun t47_13 H => run S (.call 87 [(.c (e11 5))]) [] H fun t43_14 H => run S (.bin .neq (.c
  t43_14) (.c t47_13)) [] H fun t48_15 H => jn (sq (fun e17 H => run S (.bin .add (.c (e17 4)) (.c (.int .i64 1))) [] H fun t51_18 H => R (tup [(e17 5), t51_18]) H) (fn
  [(.t 2), (.t 3)] R)) fun Q16 => cnd t48_15 (fun Q19 => Q19 .ret (upd (upd (upd (upd (upd (upd (upd (upd (upd e11 42 (e11 5)) 44 (e11 0)) 45 (e11 4)) 46 t46_12) 47
  t47_13) 43 t43_14) 48 t48_15) 2 (.int .u64 0)) 3 (.int .i64 0)) H) (fun Q20 => Q20 .normal (upd (upd (upd (upd (upd (upd (upd e11 42 (e11 5)) 44 (e11 0)) 45 (e11 4))
  46 t46_12) 47 t47_13) 43 t43_14) 48 t48_15) H) Q16) (fn [(.t 2), (.t 3)] R)) fun Q10 => jn (blk 2 Q10) fun Q21 => WL S b94_0 (upd (upd (upd e9 5 (.int .u64 0)) 27 (e9
  4)) 6 (e9 4)) H Q21) (fn [(.t 2), (.t 3)] R)) fun Q8 => cnd t26_7 (fun Q22 => Q22 .ret (upd (upd (upd (upd (upd (upd (upd (upd (upd (upd e2 19 (e2 4)) 20 (e2 0)) 21
  t21_3) 22 t22_4) 23 t22_4) 24 t24_5) 25 t25_6) 26 t26_7) 2 (.int .u64 0)) 3 (.int .i64 0)) H) (fun Q23 => Q23 .normal (upd (upd (upd (upd (upd (upd (upd (upd e2 19 (e2
  4)) 20 (e2 0)) 21 t21_3) 22 t22_4) 23 t22_4) 24 t24_5) 25 t25_6) 26 t26_7) H) Q8) (fn [(.t 2), (.t 3)] R)) fun Q1 => jn (blk 0 Q1) fun Q24 => WL S b94_1 (upd (upd (upd
  (Env.get [a0]) 2 (.int .u64 0)) 3 (.int .i64 0)) 4 (.int .i64 0)) H Q24
theorem h94 (S : Sys) (a0 : Value) (H : Heap) (R : Kv) : wpC S k94.body (Env.get [a0]) H (fn [(.t 2), (.t 3)] R) = s94 S a0 H R := by kernel_rfl
theorem w94 {S : Sys} (hR : S.R 94 = none) (hF : S.F 94 = some k94) (a0 : Value) {H : Heap} {R : Kv} (h : s94 S a0 H R) : Wf S 94 [a0] H R := Wf_sh hR hF ((h94 S a0 H
  R).mpr h)
def b95_0 : KCode := (.seq (.seq (.reg [(.op (some 5) none (.mv (.t 4))), (.op (some 6) none (.mv (.t 0))), (.op (some 7) none (.bin .lss (.t 5) (.t 6)))]) (.cond (.t 7)
  .skip (.exit 0))) (.seq (.block 1 (.reg [(.op (some 10) none (.mv (.t 3))), (.op (some 11) none (.bin .mul (.t 10) (.c (.int .i64 2)))), (.op (some 3) none (.mv (.t
  11)))])) (.reg [(.op (some 8) none (.mv (.t 4))), (.op (some 9) none (.bin .add (.t 8) (.c (.int .i64 1)))), (.op (some 4) none (.mv (.t 9)))])))
def s95_0 (S : Sys) (e : Fe) (H : Heap) (Q : Kx) : Prop := run S (.bin .lss (.c (e 4)) (.c (e 0))) [] H fun t7_4 H => jn (sq (fun e6 H => jn (sq (fun e8 H => run S (.bin
  .add (.c (e8 4)) (.c (.int .i64 1))) [] H fun t9_9 H => Q .normal (upd (upd (upd e8 8 (e8 4)) 9 t9_9) 4 t9_9) H) Q) fun Q7 => run S (.bin .mul (.c (e6 3)) (.c (.int
  .i64 2))) [] H fun t11_10 H => Q7 .normal (upd (upd (upd e6 10 (e6 3)) 11 t11_10) 3 t11_10) H) Q) fun Q5 => cnd t7_4 (fun Q11 => Q11 .normal (upd (upd (upd e 5 (e 4))
  6 (e 0)) 7 t7_4) H) (fun Q12 => Q12 (.exit 0) (upd (upd (upd e 5 (e 4)) 6 (e 0)) 7 t7_4) H) Q5
theorem h95_0 (S : Sys) (e : Fe) (H : Heap) (Q : Kx) : wpC S b95_0 e H Q = s95_0 S e H Q := by kernel_rfl
theorem l95_0 (S : Sys) {Q : Kx} (I : Nat → Fe → Heap → Prop) (d : Nat) {e0 : Fe} {H : Heap} (h0 : I d e0 H) (hr : ∀ (d : Nat) (e : Fe) (H : Heap), I d e H → s95_0 S e H
  (sq (fun e' H' => ∃ d', d' < d ∧ I d' e' H') Q)) : WL S b95_0 e0 H Q := WL_inv I d h0 fun d e H hi => (h95_0 S e H _).mpr (hr d e H hi)
theorem u95_0 (S : Sys) {Q : Kx} {e : Fe} {H : Heap} (h : s95_0 S e H (sq (fun e' H' => WL S b95_0 e' H' Q) Q)) : WL S b95_0 e H Q := WL_once ((h95_0 S e H _).mpr h)
def s95 (S : Sys) (a0 : Value) (H : Heap) (R : Kv) : Prop := jn (sq (fun e2 H => R (e2 3) H) (fn [(.t 2)] R)) fun Q1 => jn (blk 0 Q1) fun Q3 => WL S b95_0 (upd (upd (upd
  (Env.get [a0]) 2 (.int .i64 0)) 3 (.int .i64 1)) 4 (.int .i64 0)) H Q3
theorem h95 (S : Sys) (a0 : Value) (H : Heap) (R : Kv) : wpC S k95.body (Env.get [a0]) H (fn [(.t 2)] R) = s95 S a0 H R := by kernel_rfl
theorem w95 {S : Sys} (hR : S.R 95 = none) (hF : S.F 95 = some k95) (a0 : Value) {H : Heap} {R : Kv} (h : s95 S a0 H R) : Wf S 95 [a0] H R := Wf_sh hR hF ((h95 S a0 H
  R).mpr h)
def b96_1 : KCode := (.seq (.reg [(.op (some 33) none (.bin .lss (.t 32) (.t 31)))]) (.seq (.cond (.t 33) .skip (.exit 2)) (.seq (.block 3 (.seq (.reg [(.op (some 34)
  none (.mv (.t 32))), (.op (some 35) none (.iad 1 (.t 30) (.t 32))), (.op (some 36) none (.ld (.t 35))), (.op (some 6) none (.mv (.t 34))), (.op (some 7) none (.mv (.t
  36)))]) (.seq (.reg [(.op (some 37) none (.mv (.t 7))), (.op (some 38) none (.mv (.t 5))), (.op (some 39) none (.bin .eql (.t 37) (.t 38)))]) (.cond (.t 39) (.seq
  (.reg [(.op (some 40) none (.mv (.t 3))), (.op (some 41) none (.mv (.t 3))), (.op (some 42) none (.nck (.t 41))), (.op (some 43) none (.fad 39 (.t 42))), (.op (some
  44) none (.ld (.t 43))), (.op (some 45) none (.mv (.t 6))), (.op (some 46) none (.cvt .u8 (.t 45))), (.op (some 47) none (.bsl 5 1 [(.int .u8 0)] [(0, (1, (.t
  46)))])), (.op (some 48) none (.app 5 1 1 (.t 44) (.t 47))), (.op (some 49) none (.nck (.t 40))), (.op (some 50) none (.fad 39 (.t 49))), (.op none none (.st (.t 50)
  (.t 48)))]) (.reg [(.op (some 51) none (.mv (.t 3))), (.op (some 52) none (.mv (.t 5))), (.op (some 53) none (.nck (.t 51))), (.op (some 54) none (.fad 13 (.t 53))),
  (.op (some 55) none (.iada 13 1 (.t 54) (.t 52))), (.op (some 56) none (.ld (.t 55))), (.op (some 57) none (.bin .add (.t 56) (.c (.int .i64 1)))), (.op (some 58) none
  (.nck (.t 51))), (.op (some 59) none (.fad 13 (.t 58))), (.op (some 60) none (.iada 13 1 (.t 59) (.t 52))), (.op none none (.st (.t 60) (.t 57)))])) .skip)))) (.reg
  [(.op (some 61) none (.bin .add (.t 32) (.c (.int .i64 1)))), (.op (some 32) none (.mv (.t 61)))]))))
def s96_1 (S : Sys) (e : Fe) (H : Heap) (Q : Kx) : Prop := run S (.bin .lss (.c (e 32)) (.c (e 31))) [] H fun t33_35 H => jn (sq (fun e37 H => jn (sq (fun e39 H => run S
  (.bin .add (.c (e39 32)) (.c (.int .i64 1))) [] H fun t61_40 H => Q .normal (upd (upd e39 61 t61_40) 32 t61_40) H) Q) fun Q38 => run S (.iad 1 (.c (e37 30)) (.c (e37
  32))) [] H fun t35_41 H => run S (.ld (.c t35_41)) [] H fun t36_42 H => run S (.bin .eql (.c t36_42) (.c (e37 5))) [] H fun t39_43 H => jn (blk 3 Q38) fun Q44 => cnd
  t39_43 (fun Q45 => run S (.nck (.c (e37 3))) [] H fun t42_47 H => run S (.fad 39 (.c t42_47)) [] H fun t43_48 H => run S (.ld (.c t43_48)) [] H fun t44_49 H => run S
  (.cvt .u8 (.c (e37 32))) [] H fun t46_50 H => run S (.bsl 5 1 [(.int .u8 0)] [(0, (1, (.c t46_50)))]) [] H fun t47_51 H => run S (.app 5 1 1 (.c t44_49) (.c t47_51))
  [] H fun t48_52 H => run S (.nck (.c (e37 3))) [] H fun t49_53 H => run S (.fad 39 (.c t49_53)) [] H fun t50_54 H => run S (.st (.c t50_54) (.c t48_52)) [] H fun _ H
  => run S (.nck (.c (e37 3))) [] H fun t53_55 H => run S (.fad 13 (.c t53_55)) [] H fun t54_56 H => run S (.iada 13 1 (.c t54_56) (.c (e37 5))) [] H fun t55_57 H => run
  S (.ld (.c t55_57)) [] H fun t56_58 H => run S (.bin .add (.c t56_58) (.c (.int .i64 1))) [] H fun t57_59 H => run S (.nck (.c (e37 3))) [] H fun t58_60 H => run S
  (.fad 13 (.c t58_60)) [] H fun t59_61 H => run S (.iada 13 1 (.c t59_61) (.c (e37 5))) [] H fun t60_62 H => run S (.st (.c t60_62) (.c t57_59)) [] H fun _ H => Q45
  .normal (upd (upd (upd (upd (upd (upd (upd (upd (upd (upd (upd (upd (upd (upd (upd (upd (upd (upd (upd (upd (upd (upd (upd (upd (upd (upd (upd (upd (upd e37 34 (e37
  32)) 35 t35_41) 36 t36_42) 6 (e37 32)) 7 t36_42) 37 t36_42) 38 (e37 5)) 39 t39_43) 40 (e37 3)) 41 (e37 3)) 42 t42_47) 43 t43_48) 44 t44_49) 45 (e37 32)) 46 t46_50) 47
  t47_51) 48 t48_52) 49 t49_53) 50 t50_54) 51 (e37 3)) 52 (e37 5)) 53 t53_55) 54 t54_56) 55 t55_57) 56 t56_58) 57 t57_59) 58 t58_60) 59 t59_61) 60 t60_62) H) (fun Q46 =>
  Q46 .normal (upd (upd (upd (upd (upd (upd (upd (upd e37 34 (e37 32)) 35 t35_41) 36 t36_42) 6 (e37 32)) 7 t36_42) 37 t36_42) 38 (e37 5)) 39 t39_43) H) Q44) Q) fun Q36
  => cnd t33_35 (fun Q63 => Q63 .normal (upd e 33 t33_35) H) (fun Q64 => Q64 (.exit 2) (upd e 33 t33_35) H) Q36
theorem h96_1 (S : Sys) (e : Fe) (H : Heap) (Q : Kx) : wpC S b96_1 e H Q = s96_1 S e H Q := by kernel_rfl
theorem l96_1 (S : Sys) {Q : Kx} (I : Nat → Fe → Heap → Prop) (d : Nat) {e0 : Fe} {H : Heap} (h0 : I d e0 H) (hr : ∀ (d : Nat) (e : Fe) (H : Heap), I d e H → s96_1 S e H
  (sq (fun e' H' => ∃ d', d' < d ∧ I d' e' H') Q)) : WL S b96_1 e0 H Q := WL_inv I d h0 fun d e H hi => (h96_1 S e H _).mpr (hr d e H hi)
theorem u96_1 (S : Sys) {Q : Kx} {e : Fe} {H : Heap} (h : s96_1 S e H (sq (fun e' H' => WL S b96_1 e' H' Q) Q)) : WL S b96_1 e H Q := WL_once ((h96_1 S e H _).mpr h)
def b96_0 : KCode := (.seq (.seq (.reg [(.op (some 10) none (.mv (.t 5))), (.op (some 11) none (.bin .leq (.t 10) (.c (.int .i64 11))))]) (.cond (.t 11) .skip (.exit
  0))) (.seq (.block 1 (.seq (.reg [(.op (some 14) none (.mv (.t 3))), (.op (some 15) none (.mv (.t 5))), (.op (some 16) none (.mv (.t 3))), (.op (some 17) none (.mv (.t
  5))), (.op (some 18) none (.mv (.t 4))), (.op (some 19) none (.mv (.t 3))), (.op (some 20) none (.nck (.t 19))), (.op (some 21) none (.fad 39 (.t 20))), (.op (some 22)
  none (.ld (.t 21))), (.op (some 23) none (.lenL (.t 22))), (.op (some 24) none (.nck (.t 14))), (.op (some 25) none (.fad 0 (.t 24))), (.op (some 26) none (.iada 13 1
  (.t 25) (.t 15))), (.op (some 27) none (.nck (.t 16))), (.op (some 28) none (.fad 26 (.t 27))), (.op none none (.st (.t 26) (.t 18))), (.op (some 29) none (.iada 13 1
  (.t 28) (.t 17))), (.op none none (.st (.t 29) (.t 23)))]) (.seq (.seq (.reg [(.op (some 30) none (.mv (.t 0))), (.op (some 31) none (.lenL (.t 30))), (.op (some 32)
  none (.mv (.c (.int .i64 0))))]) (.block 2 (.loop (.seq (.reg [(.op (some 33) none (.bin .lss (.t 32) (.t 31)))]) (.seq (.cond (.t 33) .skip (.exit 2)) (.seq (.block 3
  (.seq (.reg [(.op (some 34) none (.mv (.t 32))), (.op (some 35) none (.iad 1 (.t 30) (.t 32))), (.op (some 36) none (.ld (.t 35))), (.op (some 6) none (.mv (.t 34))),
  (.op (some 7) none (.mv (.t 36)))]) (.seq (.reg [(.op (some 37) none (.mv (.t 7))), (.op (some 38) none (.mv (.t 5))), (.op (some 39) none (.bin .eql (.t 37) (.t
  38)))]) (.cond (.t 39) (.seq (.reg [(.op (some 40) none (.mv (.t 3))), (.op (some 41) none (.mv (.t 3))), (.op (some 42) none (.nck (.t 41))), (.op (some 43) none
  (.fad 39 (.t 42))), (.op (some 44) none (.ld (.t 43))), (.op (some 45) none (.mv (.t 6))), (.op (some 46) none (.cvt .u8 (.t 45))), (.op (some 47) none (.bsl 5 1
  [(.int .u8 0)] [(0, (1, (.t 46)))])), (.op (some 48) none (.app 5 1 1 (.t 44) (.t 47))), (.op (some 49) none (.nck (.t 40))), (.op (some 50) none (.fad 39 (.t 49))),
  (.op none none (.st (.t 50) (.t 48)))]) (.reg [(.op (some 51) none (.mv (.t 3))), (.op (some 52) none (.mv (.t 5))), (.op (some 53) none (.nck (.t 51))), (.op (some
  54) none (.fad 13 (.t 53))), (.op (some 55) none (.iada 13 1 (.t 54) (.t 52))), (.op (some 56) none (.ld (.t 55))), (.op (some 57) none (.bin .add (.t 56) (.c (.int
  .i64 1)))), (.op (some 58) none (.nck (.t 51))), (.op (some 59) none (.fad 13 (.t 58))), (.op (some 60) none (.iada 13 1 (.t 59) (.t 52))), (.op none none (.st (.t 60)
  (.t 57)))])) .skip)))) (.reg [(.op (some 61) none (.bin .add (.t 32) (.c (.int .i64 1)))), (.op (some 32) none (.mv (.t 61)))]))))))) (.reg [(.op (some 62) none (.mv
  (.t 4))), (.op (some 63) none (.mv (.t 3))), (.op (some 64) none (.mv (.t 5))), (.op (some 65) none (.nck (.t 63))), (.op (some 66) none (.fad 13 (.t 65))), (.op (some
  67) none (.iada 13 1 (.t 66) (.t 64))), (.op (some 68) none (.ld (.t 67))), (.op (some 69) none (.bin .add (.t 62) (.t 68))), (.op (some 70) none (.bin .shl (.t 69)
  (.c (.int .u64 1)))), (.op (some 4) none (.mv (.t 70)))])))) (.reg [(.op (some 12) none (.mv (.t 5))), (.op (some 13) none (.bin .add (.t 12) (.c (.int .i64 1)))),
  (.op (some 5) none (.mv (.t 13)))])))
def s96_0 (S : Sys) (e : Fe) (H : Heap) (Q : Kx) : Prop := run S (.bin .leq (.c (e 5)) (.c (.int .i64 11))) [] H fun t11_6 H => jn (sq (fun e8 H => jn (sq (fun e10 H =>
  run S (.bin .add (.c (e10 5)) (.c (.int .i64 1))) [] H fun t13_11 H => Q .normal (upd (upd (upd e10 12 (e10 5)) 13 t13_11) 5 t13_11) H) Q) fun Q9 => run S (.nck (.c
  (e8 3))) [] H fun t20_12 H => run S (.fad 39 (.c t20_12)) [] H fun t21_13 H => run S (.ld (.c t21_13)) [] H fun t22_14 H => run S (.lenL (.c t22_14)) [] H fun t23_15 H
  => run S (.nck (.c (e8 3))) [] H fun t24_16 H => run S (.fad 0 (.c t24_16)) [] H fun t25_17 H => run S (.iada 13 1 (.c t25_17) (.c (e8 5))) [] H fun t26_18 H => run S
  (.nck (.c (e8 3))) [] H fun t27_19 H => run S (.fad 26 (.c t27_19)) [] H fun t28_20 H => run S (.st (.c t26_18) (.c (e8 4))) [] H fun _ H => run S (.iada 13 1 (.c
  t28_20) (.c (e8 5))) [] H fun t29_21 H => run S (.st (.c t29_21) (.c t23_15)) [] H fun _ H => run S (.lenL (.c (e8 0))) [] H fun t31_22 H => jn (blk 1 Q9) fun Q23 =>
  jn (sq (fun e25 H => run S (.nck (.c (e25 3))) [] H fun t65_26 H => run S (.fad 13 (.c t65_26)) [] H fun t66_27 H => run S (.iada 13 1 (.c t66_27) (.c (e25 5))) [] H
  fun t67_28 H => run S (.ld (.c t67_28)) [] H fun t68_29 H => run S (.bin .add (.c (e25 4)) (.c t68_29)) [] H fun t69_30 H => run S (.bin .shl (.c t69_30) (.c (.int
  .u64 1))) [] H fun t70_31 H => Q23 .normal (upd (upd (upd (upd (upd (upd (upd (upd (upd (upd e25 62 (e25 4)) 63 (e25 3)) 64 (e25 5)) 65 t65_26) 66 t66_27) 67 t67_28)
  68 t68_29) 69 t69_30) 70 t70_31) 4 t70_31) H) Q23) fun Q24 => jn (blk 2 Q24) fun Q32 => WL S b96_1 (upd (upd (upd (upd (upd (upd (upd (upd (upd (upd (upd (upd (upd
  (upd (upd (upd (upd (upd (upd e8 14 (e8 3)) 15 (e8 5)) 16 (e8 3)) 17 (e8 5)) 18 (e8 4)) 19 (e8 3)) 20 t20_12) 21 t21_13) 22 t22_14) 23 t23_15) 24 t24_16) 25 t25_17) 26
  t26_18) 27 t27_19) 28 t28_20) 29 t29_21) 30 (e8 0)) 31 t31_22) 32 (.int .i64 0)) H Q32) Q) fun Q7 => cnd t11_6 (fun Q33 => Q33 .normal (upd (upd e 10 (e 5)) 11 t11_6)
  H) (fun Q34 => Q34 (.exit 0) (upd (upd e 10 (e 5)) 11 t11_6) H) Q7
theorem h96_0 (S : Sys) (e : Fe) (H : Heap) (Q : Kx) : wpC S b96_0 e H Q = s96_0 S e H Q := by kernel_rfl
theorem l96_0 (S : Sys) {Q : Kx} (I : Nat → Fe → Heap → Prop) (d : Nat) {e0 : Fe} {H : Heap} (h0 : I d e0 H) (hr : ∀ (d : Nat) (e : Fe) (H : Heap), I d e H → s96_0 S e H
  (sq (fun e' H' => ∃ d', d' < d ∧ I d' e' H') Q)) : WL S b96_0 e0 H Q := WL_inv I d h0 fun d e H hi => (h96_0 S e H _).mpr (hr d e H hi)
theorem u96_0 (S : Sys) {Q : Kx} {e : Fe} {H : Heap} (h : s96_0 S e H (sq (fun e' H' => WL S b96_0 e' H' Q) Q)) : WL S b96_0 e H Q := WL_once ((h96_0 S e H _).mpr h)
def s96 (S : Sys) (a0 : Value) (H : Heap) (R : Kv) : Prop := run S (.build [(.int .i64 0), (.int .i64 0), (.int .i64 0), (.int .i64 0), (.int .i64 0), (.int .i64 0),
  (.int .i64 0), (.int .i64 0), (.int .i64 0), (.int .i64 0), (.int .i64 0), (.int .i64 0), (.int .i64 0), (.int .i64 0), (.int .i64 0), (.int .i64 0), (.int .i64 0),
  (.int .i64 0), (.int .i64 0), (.int .i64 0), (.int .i64 0), (.int .i64 0), (.int .i64 0), (.int .i64 0), (.int .i64 0), (.int .i64 0), (.int .i64 0), (.int .i64 0),
  (.int .i64 0), (.int .i64 0), (.int .i64 0), (.int .i64 0), (.int .i64 0), (.int .i64 0), (.int .i64 0), (.int .i64 0), (.int .i64 0), (.int .i64 0), (.int .i64 0),
  (.slice none 0 0)] []) [] H fun t8_1 H => run S (.box 181 (.c t8_1)) [] H fun t9_2 H => jn (sq (fun e4 H => R (e4 3) H) (fn [(.t 2)] R)) fun Q3 => jn (blk 0 Q3) fun Q5
  => WL S b96_0 (upd (upd (upd (upd (upd (upd (Env.get [a0]) 2 (.pointer none)) 8 t8_1) 9 t9_2) 3 t9_2) 4 (.int .i64 0)) 5 (.int .i64 1)) H Q5
theorem h96 (S : Sys) (a0 : Value) (H : Heap) (R : Kv) : wpC S k96.body (Env.get [a0]) H (fn [(.t 2)] R) = s96 S a0 H R := by kernel_rfl
theorem w96 {S : Sys} (hR : S.R 96 = none) (hF : S.F 96 = some k96) (a0 : Value) {H : Heap} {R : Kv} (h : s96 S a0 H R) : Wf S 96 [a0] H R := Wf_sh hR hF ((h96 S a0 H
  R).mpr h)
def s97 (S : Sys) (a0 : Value) (H : Heap) (R : Kv) : Prop := run S (.app 5 1 1 (.c (.slice none 0 0)) (.c a0)) [] H fun t4_1 H => run S (.build [(.slice none 0 0), (.int
  .i64 0)] [(0, (1, (.c t4_1)))]) [] H fun t5_2 H => run S (.box 183 (.c t5_2)) [] H fun t6_3 H => R t6_3 H
theorem h97 (S : Sys) (a0 : Value) (H : Heap) (R : Kv) : wpC S k97.body (Env.get [a0]) H (fn [(.t 2)] R) = s97 S a0 H R := by kernel_rfl
theorem w97 {S : Sys} (hR : S.R 97 = none) (hF : S.F 97 = some k97) (a0 : Value) {H : Heap} {R : Kv} (h : s97 S a0 H R) : Wf S 97 [a0] H R := Wf_sh hR hF ((h97 S a0 H
  R).mpr h)
def b98_0 : KCode := (.seq (.seq (.reg [(.op (some 11) none (.mv (.t 7))), (.op (some 12) none (.bin .leq (.t 11) (.c (.int .i64 11))))]) (.cond (.t 12) .skip (.exit
  0))) (.seq (.block 1 (.seq (.reg [(.op (some 16) none (.mv (.t 1))), (.op (some 17) none (.call 100 [(.t 16), (.c (.int .i64 1))])), (.op (some 15) none (.mv (.t
  17))), (.op (some 18) none (.xt (.t 15) 0)), (.op (some 19) none (.xt (.t 15) 1)), (.op (some 8) none (.mv (.t 18))), (.op (some 9) none (.mv (.t 19)))]) (.seq (.seq
  (.reg [(.op (some 20) none (.mv (.t 9))), (.op (some 21) none (.un .not (.t 20)))]) (.cond (.t 21) (.seq (.reg [(.op (some 4) none (.mv (.c (.int .u8 0)))), (.op (some
  5) none (.mv (.c (.bool false))))]) .ret) .skip)) (.seq (.reg [(.op (some 22) none (.mv (.t 6))), (.op (some 23) none (.bin .shl (.t 22) (.c (.int .u64 1)))), (.op
  (some 24) none (.mv (.t 8))), (.op (some 25) none (.cvt .i64 (.t 24))), (.op (some 26) none (.bin .or (.t 23) (.t 25))), (.op (some 6) none (.mv (.t 26)))]) (.seq
  (.reg [(.op (some 27) none (.mv (.t 6))), (.op (some 28) none (.mv (.t 0))), (.op (some 29) none (.mv (.t 7))), (.op (some 30) none (.nck (.t 28))), (.op (some 31)
  none (.fad 0 (.t 30))), (.op (some 32) none (.iada 13 1 (.t 31) (.t 29))), (.op (some 33) none (.ld (.t 32))), (.op (some 34) none (.bin .sub (.t 27) (.t 33))), (.op
  (some 10) none (.mv (.t 34)))]) (.seq (.reg [(.op (some 35) none (.mv (.t 10))), (.op (some 36) none (.bin .geq (.t 35) (.c (.int .i64 0)))), (.op (some 37) none (.mv
  (.t 36))), (.op (some 38) (some (37, true)) (.mv (.t 10))), (.op (some 39) (some (37, true)) (.mv (.t 0))), (.op (some 40) (some (37, true)) (.mv (.t 7))), (.op (some
  41) (some (37, true)) (.nck (.t 39))), (.op (some 42) (some (37, true)) (.fad 13 (.t 41))), (.op (some 43) (some (37, true)) (.iada 13 1 (.t 42) (.t 40))), (.op (some
  44) (some (37, true)) (.ld (.t 43))), (.op (some 45) (some (37, true)) (.bin .lss (.t 38) (.t 44))), (.op (some 46) none (.pick (.t 37) (.t 45) (.c (.bool false))))])
  (.cond (.t 46) (.seq (.reg [(.op (some 47) none (.mv (.t 0))), (.op (some 48) none (.nck (.t 47))), (.op (some 49) none (.fad 39 (.t 48))), (.op (some 50) none (.ld
  (.t 49))), (.op (some 51) none (.mv (.t 0))), (.op (some 52) none (.mv (.t 7))), (.op (some 53) none (.nck (.t 51))), (.op (some 54) none (.fad 26 (.t 53))), (.op
  (some 55) none (.iada 13 1 (.t 54) (.t 52))), (.op (some 56) none (.ld (.t 55))), (.op (some 57) none (.mv (.t 10))), (.op (some 58) none (.bin .add (.t 56) (.t 57))),
  (.op (some 59) none (.iad 1 (.t 50) (.t 58))), (.op (some 60) none (.ld (.t 59))), (.op (some 4) none (.mv (.t 60))), (.op (some 5) none (.mv (.c (.bool true))))])
  .ret) .skip))))))) (.reg [(.op (some 13) none (.mv (.t 7))), (.op (some 14) none (.bin .add (.t 13) (.c (.int .i64 1)))), (.op (some 7) none (.mv (.t 14)))])))
def s98_0 (S : Sys) (e : Fe) (H : Heap) (Q : Kx) : Prop := run S (.bin .leq (.c (e 7)) (.c (.int .i64 11))) [] H fun t12_4 H => jn (sq (fun e6 H => jn (sq (fun e8 H =>
  run S (.bin .add (.c (e8 7)) (.c (.int .i64 1))) [] H fun t14_9 H => Q .normal (upd (upd (upd e8 13 (e8 7)) 14 t14_9) 7 t14_9) H) Q) fun Q7 => run S (.call 100 [(.c
  (e6 1)), (.c (.int .i64 1))]) [] H fun t17_10 H => run S (.xt (.c t17_10) 0) [] H fun t18_11 H => run S (.xt (.c t17_10) 1) [] H fun t19_12 H => run S (.un .not (.c
  t19_12)) [] H fun t21_13 H => jn (blk 1 Q7) fun Q14 => jn (sq (fun e16 H => run S (.bin .shl (.c (e16 6)) (.c (.int .u64 1))) [] H fun t23_17 H => run S (.cvt .i64 (.c
  (e16 8))) [] H fun t25_18 H => run S (.bin .or (.c t23_17) (.c t25_18)) [] H fun t26_19 H => run S (.nck (.c (e16 0))) [] H fun t30_20 H => run S (.fad 0 (.c t30_20))
  [] H fun t31_21 H => run S (.iada 13 1 (.c t31_21) (.c (e16 7))) [] H fun t32_22 H => run S (.ld (.c t32_22)) [] H fun t33_23 H => run S (.bin .sub (.c t26_19) (.c
  t33_23)) [] H fun t34_24 H => run S (.bin .geq (.c t34_24) (.c (.int .i64 0))) [] H fun t36_25 H => gd t36_25 true (run S (.mv (.c t34_24)) [] H) H fun t38_26 H => gd
  t36_25 true (run S (.mv (.c (e16 0))) [] H) H fun t39_27 H => gd t36_25 true (run S (.mv (.c (e16 7))) [] H) H fun t40_28 H => gd t36_25 true (run S (.nck (.c t39_27))
  [] H) H fun t41_29 H => gd t36_25 true (run S (.fad 13 (.c t41_29)) [] H) H fun t42_30 H => gd t36_25 true (run S (.iada 13 1 (.c t42_30) (.c t40_28)) [] H) H fun
  t43_31 H => gd t36_25 true (run S (.ld (.c t43_31)) [] H) H fun t44_32 H => gd t36_25 true (run S (.bin .lss (.c t38_26) (.c t44_32)) [] H) H fun t45_33 H => run S
  (.pick (.c t36_25) (.c t45_33) (.c (.bool false))) [] H fun t46_34 H => cnd t46_34 (fun Q35 => run S (.nck (.c (e16 0))) [] H fun t48_37 H => run S (.fad 39 (.c
  t48_37)) [] H fun t49_38 H => run S (.ld (.c t49_38)) [] H fun t50_39 H => run S (.nck (.c (e16 0))) [] H fun t53_40 H => run S (.fad 26 (.c t53_40)) [] H fun t54_41 H
  => run S (.iada 13 1 (.c t54_41) (.c (e16 7))) [] H fun t55_42 H => run S (.ld (.c t55_42)) [] H fun t56_43 H => run S (.bin .add (.c t56_43) (.c t34_24)) [] H fun
  t58_44 H => run S (.iad 1 (.c t50_39) (.c t58_44)) [] H fun t59_45 H => run S (.ld (.c t59_45)) [] H fun t60_46 H => Q35 .ret (upd (upd (upd (upd (upd (upd (upd (upd
  (upd (upd (upd (upd (upd (upd (upd (upd (upd (upd (upd (upd (upd (upd (upd (upd (upd (upd (upd (upd (upd (upd (upd (upd (upd (upd (upd (upd (upd (upd (upd (upd (upd
  (upd (upd e16 22 (e16 6)) 23 t23_17) 24 (e16 8)) 25 t25_18) 26 t26_19) 6 t26_19) 27 t26_19) 28 (e16 0)) 29 (e16 7)) 30 t30_20) 31 t31_21) 32 t32_22) 33 t33_23) 34
  t34_24) 10 t34_24) 35 t34_24) 36 t36_25) 37 t36_25) 38 t38_26) 39 t39_27) 40 t40_28) 41 t41_29) 42 t42_30) 43 t43_31) 44 t44_32) 45 t45_33) 46 t46_34) 47 (e16 0)) 48
  t48_37) 49 t49_38) 50 t50_39) 51 (e16 0)) 52 (e16 7)) 53 t53_40) 54 t54_41) 55 t55_42) 56 t56_43) 57 t34_24) 58 t58_44) 59 t59_45) 60 t60_46) 4 t60_46) 5 (.bool true))
  H) (fun Q36 => Q36 .normal (upd (upd (upd (upd (upd (upd (upd (upd (upd (upd (upd (upd (upd (upd (upd (upd (upd (upd (upd (upd (upd (upd (upd (upd (upd (upd (upd e16
  22 (e16 6)) 23 t23_17) 24 (e16 8)) 25 t25_18) 26 t26_19) 6 t26_19) 27 t26_19) 28 (e16 0)) 29 (e16 7)) 30 t30_20) 31 t31_21) 32 t32_22) 33 t33_23) 34 t34_24) 10 t34_24)
  35 t34_24) 36 t36_25) 37 t36_25) 38 t38_26) 39 t39_27) 40 t40_28) 41 t41_29) 42 t42_30) 43 t43_31) 44 t44_32) 45 t45_33) 46 t46_34) H) Q14) Q14) fun Q15 => cnd t21_13
  (fun Q47 => Q47 .ret (upd (upd (upd (upd (upd (upd (upd (upd (upd (upd (upd e6 16 (e6 1)) 17 t17_10) 15 t17_10) 18 t18_11) 19 t19_12) 8 t18_11) 9 t19_12) 20 t19_12) 21
  t21_13) 4 (.int .u8 0)) 5 (.bool false)) H) (fun Q48 => Q48 .normal (upd (upd (upd (upd (upd (upd (upd (upd (upd e6 16 (e6 1)) 17 t17_10) 15 t17_10) 18 t18_11) 19
  t19_12) 8 t18_11) 9 t19_12) 20 t19_12) 21 t21_13) H) Q15) Q) fun Q5 => cnd t12_4 (fun Q49 => Q49 .normal (upd (upd e 11 (e 7)) 12 t12_4) H) (fun Q50 => Q50 (.exit 0)
  (upd (upd e 11 (e 7)) 12 t12_4) H) Q5
theorem h98_0 (S : Sys) (e : Fe) (H : Heap) (Q : Kx) : wpC S b98_0 e H Q = s98_0 S e H Q := by kernel_rfl
theorem l98_0 (S : Sys) {Q : Kx} (I : Nat → Fe → Heap → Prop) (d : Nat) {e0 : Fe} {H : Heap} (h0 : I d e0 H) (hr : ∀ (d : Nat) (e : Fe) (H : Heap), I d e H → s98_0 S e H
  (sq (fun e' H' => ∃ d', d' < d ∧ I d' e' H') Q)) : WL S b98_0 e0 H Q := WL_inv I d h0 fun d e H hi => (h98_0 S e H _).mpr (hr d e H hi)
theorem u98_0 (S : Sys) {Q : Kx} {e : Fe} {H : Heap} (h : s98_0 S e H (sq (fun e' H' => WL S b98_0 e' H' Q) Q)) : WL S b98_0 e H Q := WL_once ((h98_0 S e H _).mpr h)
def s98 (S : Sys) (a0 a1 : Value) (H : Heap) (R : Kv) : Prop := jn (sq (fun e2 H => R (tup [(.int .u8 0), (.bool false)]) H) (fn [(.t 4), (.t 5)] R)) fun Q1 => jn (blk 0
  Q1) fun Q3 => WL S b98_0 (upd (upd (upd (upd (Env.get [a0, a1]) 4 (.int .u8 0)) 5 (.bool false)) 6 (.int .i64 0)) 7 (.int .i64 1)) H Q3
theorem h98 (S : Sys) (a0 a1 : Value) (H : Heap) (R : Kv) : wpC S k98.body (Env.get [a0, a1]) H (fn [(.t 4), (.t 5)] R) = s98 S a0 a1 H R := by kernel_rfl
theorem w98 {S : Sys} (hR : S.R 98 = none) (hF : S.F 98 = some k98) (a0 a1 : Value) {H : Heap} {R : Kv} (h : s98 S a0 a1 H R) : Wf S 98 [a0, a1] H R := Wf_sh hR hF ((h98
  S a0 a1 H R).mpr h)
def s99 (S : Sys) (a0 : Value) (H : Heap) (R : Kv) : Prop := run S (.eqv .ptr false (.c a0) (.c (.pointer none))) [] H fun t4_1 H => jn (sq (fun e3 H => run S (.nck (.c
  (e3 0))) [] H fun t6_4 H => run S (.fad 0 (.c t6_4)) [] H fun t7_5 H => run S (.ld (.c t7_5)) [] H fun t8_6 H => run S (.lenL (.c t8_6)) [] H fun t9_7 H => run S (.bin
  .mul (.c (.int .i64 8)) (.c t9_7)) [] H fun t10_8 H => run S (.nck (.c (e3 0))) [] H fun t12_9 H => run S (.fad 1 (.c t12_9)) [] H fun t13_10 H => run S (.ld (.c
  t13_10)) [] H fun t14_11 H => run S (.bin .sub (.c t10_8) (.c t14_11)) [] H fun t15_12 H => R t15_12 H) (fn [(.t 2)] R)) fun Q2 => cnd t4_1 (fun Q13 => Q13 .ret (upd
  (upd (upd (upd (Env.get [a0]) 2 (.int .i64 0)) 3 a0) 4 t4_1) 2 (.int .i64 0)) H) (fun Q14 => Q14 .normal (upd (upd (upd (Env.get [a0]) 2 (.int .i64 0)) 3 a0) 4 t4_1)
  H) Q2
theorem h99 (S : Sys) (a0 : Value) (H : Heap) (R : Kv) : wpC S k99.body (Env.get [a0]) H (fn [(.t 2)] R) = s99 S a0 H R := by kernel_rfl
theorem w99 {S : Sys} (hR : S.R 99 = none) (hF : S.F 99 = some k99) (a0 : Value) {H : Heap} {R : Kv} (h : s99 S a0 H R) : Wf S 99 [a0] H R := Wf_sh hR hF ((h99 S a0 H
  R).mpr h)
def b100_0 : KCode := (.seq (.seq (.reg [(.op (some 24) none (.mv (.t 7))), (.op (some 25) none (.mv (.t 1))), (.op (some 26) none (.bin .lss (.t 24) (.t 25)))]) (.cond
  (.t 26) .skip (.exit 0))) (.block 1 (.seq (.reg [(.op (some 27) none (.mv (.t 0))), (.op (some 28) none (.nck (.t 27))), (.op (some 29) none (.fad 1 (.t 28))), (.op
  (some 30) none (.ld (.t 29))), (.op (some 31) none (.bin .and (.t 30) (.c (.int .i64 7)))), (.op (some 8) none (.mv (.t 31)))]) (.seq (.reg [(.op (some 32) none (.mv
  (.t 1))), (.op (some 33) none (.mv (.t 7))), (.op (some 34) none (.bin .sub (.t 32) (.t 33))), (.op (some 35) none (.mv (.t 8))), (.op (some 36) none (.bin .sub (.c
  (.int .i64 8)) (.t 35))), (.op (some 37) none (.mn (.t 34) [(.t 36)])), (.op (some 9) none (.mv (.t 37)))]) (.seq (.reg [(.op (some 38) none (.mv (.t 0))), (.op (some
  39) none (.nck (.t 38))), (.op (some 40) none (.fad 0 (.t 39))), (.op (some 41) none (.ld (.t 40))), (.op (some 42) none (.mv (.t 0))), (.op (some 43) none (.nck (.t
  42))), (.op (some 44) none (.fad 1 (.t 43))), (.op (some 45) none (.ld (.t 44))), (.op (some 46) none (.bin .shr (.t 45) (.c (.int .u64 3)))), (.op (some 47) none
  (.iad 1 (.t 41) (.t 46))), (.op (some 48) none (.ld (.t 47))), (.op (some 49) none (.mv (.t 8))), (.op (some 50) none (.bin .shr (.t 48) (.t 49))), (.op (some 51) none
  (.cvt .u32 (.t 50))), (.op (some 52) none (.mv (.t 9))), (.op (some 53) none (.bin .shl (.c (.int .u32 1)) (.t 52))), (.op (some 54) none (.bin .sub (.t 53) (.c (.int
  .u32 1)))), (.op (some 55) none (.bin .and (.t 51) (.t 54))), (.op (some 10) none (.mv (.t 55)))]) (.seq (.reg [(.op (some 56) none (.mv (.t 6))), (.op (some 57) none
  (.mv (.t 10))), (.op (some 58) none (.mv (.t 7))), (.op (some 59) none (.bin .shl (.t 57) (.t 58))), (.op (some 60) none (.bin .or (.t 56) (.t 59))), (.op (some 6)
  none (.mv (.t 60)))]) (.seq (.reg [(.op (some 61) none (.mv (.t 7))), (.op (some 62) none (.mv (.t 9))), (.op (some 63) none (.bin .add (.t 61) (.t 62))), (.op (some
  7) none (.mv (.t 63)))]) (.reg [(.op (some 64) none (.mv (.t 0))), (.op (some 65) none (.nck (.t 64))), (.op (some 66) none (.fad 1 (.t 65))), (.op (some 67) none (.ld
  (.t 66))), (.op (some 68) none (.mv (.t 9))), (.op (some 69) none (.bin .add (.t 67) (.t 68))), (.op (some 70) none (.nck (.t 64))), (.op (some 71) none (.fad 1 (.t
  70))), (.op none none (.st (.t 71) (.t 69)))]))))))))
def s100_0 (S : Sys) (e : Fe) (H : Heap) (Q : Kx) : Prop := run S (.bin .lss (.c (e 7)) (.c (e 1))) [] H fun t26_18 H => jn (sq (fun e20 H => run S (.nck (.c (e20 0)))
  [] H fun t28_21 H => run S (.fad 1 (.c t28_21)) [] H fun t29_22 H => run S (.ld (.c t29_22)) [] H fun t30_23 H => run S (.bin .and (.c t30_23) (.c (.int .i64 7))) [] H
  fun t31_24 H => run S (.bin .sub (.c (e20 1)) (.c (e20 7))) [] H fun t34_25 H => run S (.bin .sub (.c (.int .i64 8)) (.c t31_24)) [] H fun t36_26 H => run S (.mn (.c
  t34_25) [(.c t36_26)]) [] H fun t37_27 H => run S (.nck (.c (e20 0))) [] H fun t39_28 H => run S (.fad 0 (.c t39_28)) [] H fun t40_29 H => run S (.ld (.c t40_29)) [] H
  fun t41_30 H => run S (.nck (.c (e20 0))) [] H fun t43_31 H => run S (.fad 1 (.c t43_31)) [] H fun t44_32 H => run S (.ld (.c t44_32)) [] H fun t45_33 H => run S (.bin
  .shr (.c t45_33) (.c (.int .u64 3))) [] H fun t46_34 H => run S (.iad 1 (.c t41_30) (.c t46_34)) [] H fun t47_35 H => run S (.ld (.c t47_35)) [] H fun t48_36 H => run
  S (.bin .shr (.c t48_36) (.c t31_24)) [] H fun t50_37 H => run S (.cvt .u32 (.c t50_37)) [] H fun t51_38 H => run S (.bin .shl (.c (.int .u32 1)) (.c t37_27)) [] H fun
  t53_39 H => run S (.bin .sub (.c t53_39) (.c (.int .u32 1))) [] H fun t54_40 H => run S (.bin .and (.c t51_38) (.c t54_40)) [] H fun t55_41 H => run S (.bin .shl (.c
  t55_41) (.c (e20 7))) [] H fun t59_42 H => run S (.bin .or (.c (e20 6)) (.c t59_42)) [] H fun t60_43 H => run S (.bin .add (.c (e20 7)) (.c t37_27)) [] H fun t63_44 H
  => run S (.nck (.c (e20 0))) [] H fun t65_45 H => run S (.fad 1 (.c t65_45)) [] H fun t66_46 H => run S (.ld (.c t66_46)) [] H fun t67_47 H => run S (.bin .add (.c
  t67_47) (.c t37_27)) [] H fun t69_48 H => run S (.nck (.c (e20 0))) [] H fun t70_49 H => run S (.fad 1 (.c t70_49)) [] H fun t71_50 H => run S (.st (.c t71_50) (.c
  t69_48)) [] H fun _ H => Q .normal (upd (upd (upd (upd (upd (upd (upd (upd (upd (upd (upd (upd (upd (upd (upd (upd (upd (upd (upd (upd (upd (upd (upd (upd (upd (upd
  (upd (upd (upd (upd (upd (upd (upd (upd (upd (upd (upd (upd (upd (upd (upd (upd (upd (upd (upd (upd (upd (upd (upd (upd e20 27 (e20 0)) 28 t28_21) 29 t29_22) 30
  t30_23) 31 t31_24) 8 t31_24) 32 (e20 1)) 33 (e20 7)) 34 t34_25) 35 t31_24) 36 t36_26) 37 t37_27) 9 t37_27) 38 (e20 0)) 39 t39_28) 40 t40_29) 41 t41_30) 42 (e20 0)) 43
  t43_31) 44 t44_32) 45 t45_33) 46 t46_34) 47 t47_35) 48 t48_36) 49 t31_24) 50 t50_37) 51 t51_38) 52 t37_27) 53 t53_39) 54 t54_40) 55 t55_41) 10 t55_41) 56 (e20 6)) 57
  t55_41) 58 (e20 7)) 59 t59_42) 60 t60_43) 6 t60_43) 61 (e20 7)) 62 t37_27) 63 t63_44) 7 t63_44) 64 (e20 0)) 65 t65_45) 66 t66_46) 67 t67_47) 68 t37_27) 69 t69_48) 70
  t70_49) 71 t71_50) H) Q) fun Q19 => cnd t26_18 (fun Q51 => Q51 .normal (upd (upd (upd e 24 (e 7)) 25 (e 1)) 26 t26_18) H) (fun Q52 => Q52 (.exit 0) (upd (upd (upd e 24
  (e 7)) 25 (e 1)) 26 t26_18) H) Q19
theorem h100_0 (S : Sys) (e : Fe) (H : Heap) (Q : Kx) : wpC S b100_0 e H Q = s100_0 S e H Q := by kernel_rfl
theorem l100_0 (S : Sys) {Q : Kx} (I : Nat → Fe → Heap → Prop) (d : Nat) {e0 : Fe} {H : Heap} (h0 : I d e0 H) (hr : ∀ (d : Nat) (e : Fe) (H : Heap), I d e H → s100_0 S e
  H (sq (fun e' H' => ∃ d', d' < d ∧ I d' e' H') Q)) : WL S b100_0 e0 H Q := WL_inv I d h0 fun d e H hi => (h100_0 S e H _).mpr (hr d e H hi)
theorem u100_0 (S : Sys) {Q : Kx} {e : Fe} {H : Heap} (h : s100_0 S e H (sq (fun e' H' => WL S b100_0 e' H' Q) Q)) : WL S b100_0 e H Q := WL_once ((h100_0 S e H _).mpr h)
def s100 (S : Sys) (a0 a1 : Value) (H : Heap) (R : Kv) : Prop := run S (.eqv .ptr false (.c a0) (.c (.pointer none))) [] H fun t12_1 H => gd t12_1 false (run S (.mv (.c
  a1)) [] H) H fun t14_2 H => gd t12_1 false (run S (.call 149 [(.c t14_2)]) [] H) H fun t15_3 H => gd t12_1 false (run S (.un .not (.c t15_3)) [] H) H fun t16_4 H =>
  run S (.pick (.c t12_1) (.c (.bool true)) (.c t16_4)) [] H fun t17_5 H => gd t17_5 false (run S (.mv (.c a1)) [] H) H fun t19_6 H => gd t17_5 false (run S (.mv (.c
  a0)) [] H) H fun t20_7 H => gd t17_5 false (run S (.call 99 [(.c t20_7)]) [] H) H fun t21_8 H => gd t17_5 false (run S (.bin .gtr (.c t19_6) (.c t21_8)) [] H) H fun
  t22_9 H => run S (.pick (.c t17_5) (.c (.bool true)) (.c t22_9)) [] H fun t23_10 H => jn (sq (fun e12 H => jn (sq (fun e14 H => R (tup [(e14 6), (.bool true)]) H) (fn
  [(.t 4), (.t 5)] R)) fun Q13 => jn (blk 0 Q13) fun Q15 => WL S b100_0 (upd (upd e12 6 (.int .u32 0)) 7 (.int .i64 0)) H Q15) (fn [(.t 4), (.t 5)] R)) fun Q11 => cnd
  t23_10 (fun Q16 => Q16 .ret (upd (upd (upd (upd (upd (upd (upd (upd (upd (upd (upd (upd (upd (upd (upd (upd (upd (Env.get [a0, a1]) 4 (.int .u32 0)) 5 (.bool false))
  11 a0) 12 t12_1) 13 t12_1) 14 t14_2) 15 t15_3) 16 t16_4) 17 t17_5) 18 t17_5) 19 t19_6) 20 t20_7) 21 t21_8) 22 t22_9) 23 t23_10) 4 (.int .u32 0)) 5 (.bool false)) H)
  (fun Q17 => Q17 .normal (upd (upd (upd (upd (upd (upd (upd (upd (upd (upd (upd (upd (upd (upd (upd (Env.get [a0, a1]) 4 (.int .u32 0)) 5 (.bool false)) 11 a0) 12
  t12_1) 13 t12_1) 14 t14_2) 15 t15_3) 16 t16_4) 17 t17_5) 18 t17_5) 19 t19_6) 20 t20_7) 21 t21_8) 22 t22_9) 23 t23_10) H) Q11
theorem h100 (S : Sys) (a0 a1 : Value) (H : Heap) (R : Kv) : wpC S k100.body (Env.get [a0, a1]) H (fn [(.t 4), (.t 5)] R) = s100 S a0 a1 H R := by kernel_rfl
theorem w100 {S : Sys} (hR : S.R 100 = none) (hF : S.F 100 = some k100) (a0 a1 : Value) {H : Heap} {R : Kv} (h : s100 S a0 a1 H R) : Wf S 100 [a0, a1] H R := Wf_sh hR hF
  ((h100 S a0 a1 H R).mpr h)
def b101_0 : KCode := (.seq (.seq (.reg [(.op (some 18) none (.mv (.t 7))), (.op (some 19) none (.bin .geq (.t 18) (.c (.int .i64 0))))]) (.cond (.t 19) .skip (.exit
  0))) (.seq (.block 1 (.reg [(.op (some 22) none (.mv (.t 5))), (.op (some 23) none (.mv (.t 6))), (.op (some 24) none (.mv (.t 7))), (.op (some 25) none (.call 95 [(.t
  24)])), (.op (some 26) none (.bin .quo (.t 23) (.t 25))), (.op (some 27) none (.bin .rem (.t 26) (.c (.int .i64 2)))), (.op (some 28) none (.bsl 3 1 [(.int .i64 0)]
  [(0, (1, (.t 27)))])), (.op (some 29) none (.app 3 1 8 (.t 22) (.t 28))), (.op (some 5) none (.mv (.t 29)))])) (.reg [(.op (some 20) none (.mv (.t 7))), (.op (some 21)
  none (.bin .sub (.t 20) (.c (.int .i64 1)))), (.op (some 7) none (.mv (.t 21)))])))
def s101_0 (S : Sys) (e : Fe) (H : Heap) (Q : Kx) : Prop := run S (.bin .geq (.c (e 7)) (.c (.int .i64 0))) [] H fun t19_10 H => jn (sq (fun e12 H => jn (sq (fun e14 H
  => run S (.bin .sub (.c (e14 7)) (.c (.int .i64 1))) [] H fun t21_15 H => Q .normal (upd (upd (upd e14 20 (e14 7)) 21 t21_15) 7 t21_15) H) Q) fun Q13 => run S (.call
  95 [(.c (e12 7))]) [] H fun t25_16 H => run S (.bin .quo (.c (e12 6)) (.c t25_16)) [] H fun t26_17 H => run S (.bin .rem (.c t26_17) (.c (.int .i64 2))) [] H fun
  t27_18 H => run S (.bsl 3 1 [(.int .i64 0)] [(0, (1, (.c t27_18)))]) [] H fun t28_19 H => run S (.app 3 1 8 (.c (e12 5)) (.c t28_19)) [] H fun t29_20 H => Q13 .normal
  (upd (upd (upd (upd (upd (upd (upd (upd (upd e12 22 (e12 5)) 23 (e12 6)) 24 (e12 7)) 25 t25_16) 26 t26_17) 27 t27_18) 28 t28_19) 29 t29_20) 5 t29_20) H) Q) fun Q11 =>
  cnd t19_10 (fun Q21 => Q21 .normal (upd (upd e 18 (e 7)) 19 t19_10) H) (fun Q22 => Q22 (.exit 0) (upd (upd e 18 (e 7)) 19 t19_10) H) Q11
theorem h101_0 (S : Sys) (e : Fe) (H : Heap) (Q : Kx) : wpC S b101_0 e H Q = s101_0 S e H Q := by kernel_rfl
theorem l101_0 (S : Sys) {Q : Kx} (I : Nat → Fe → Heap → Prop) (d : Nat) {e0 : Fe} {H : Heap} (h0 : I d e0 H) (hr : ∀ (d : Nat) (e : Fe) (H : Heap), I d e H → s101_0 S e
  H (sq (fun e' H' => ∃ d', d' < d ∧ I d' e' H') Q)) : WL S b101_0 e0 H Q := WL_inv I d h0 fun d e H hi => (h101_0 S e H _).mpr (hr d e H hi)
theorem u101_0 (S : Sys) {Q : Kx} {e : Fe} {H : Heap} (h : s101_0 S e H (sq (fun e' H' => WL S b101_0 e' H' Q) Q)) : WL S b101_0 e H Q := WL_once ((h101_0 S e H _).mpr h)
def s101 (S : Sys) (a0 a1 : Value) (H : Heap) (R : Kv) : Prop := run S (.call 70 [(.c a0)]) [] H fun t9_1 H => run S (.iad 1 (.c t9_1) (.c a1)) [] H fun t11_2 H => run S
  (.ld (.c t11_2)) [] H fun t12_3 H => run S (.iad 1 (.c a0) (.c a1)) [] H fun t15_4 H => run S (.ld (.c t15_4)) [] H fun t16_5 H => run S (.bin .sub (.c t16_5) (.c
  (.int .i64 1))) [] H fun t17_6 H => jn (sq (fun e8 H => R (e8 5) H) (fn [(.t 4)] R)) fun Q7 => jn (blk 0 Q7) fun Q9 => WL S b101_0 (upd (upd (upd (upd (upd (upd (upd
  (upd (upd (upd (upd (upd (upd (upd (Env.get [a0, a1]) 4 (.slice none 0 0)) 5 (.slice none 0 0)) 8 a0) 9 t9_1) 10 a1) 11 t11_2) 12 t12_3) 6 t12_3) 13 a0) 14 a1) 15
  t15_4) 16 t16_5) 17 t17_6) 7 t17_6) H Q9
theorem h101 (S : Sys) (a0 a1 : Value) (H : Heap) (R : Kv) : wpC S k101.body (Env.get [a0, a1]) H (fn [(.t 4)] R) = s101 S a0 a1 H R := by kernel_rfl
theorem w101 {S : Sys} (hR : S.R 101 = none) (hF : S.F 101 = some k101) (a0 a1 : Value) {H : Heap} {R : Kv} (h : s101 S a0 a1 H R) : Wf S 101 [a0, a1] H R := Wf_sh hR hF
  ((h101 S a0 a1 H R).mpr h)
def b102_0 : KCode := (.seq (.seq (.reg [(.op (some 5) none (.mv (.t 4))), (.op (some 6) none (.mv (.t 0))), (.op (some 7) none (.lenL (.t 6))), (.op (some 8) none (.bin
  .lss (.t 5) (.t 7)))]) (.cond (.t 8) .skip (.exit 0))) (.seq (.block 1 (.reg [(.op (some 11) none (.mv (.t 3))), (.op (some 12) none (.mv (.t 0))), (.op (some 13) none
  (.mv (.t 4))), (.op (some 14) none (.iad 1 (.t 12) (.t 13))), (.op (some 15) none (.ld (.t 14))), (.op (some 16) none (.cvt .u32 (.t 15))), (.op (some 17) none (.call
  150 [(.t 16), (.c (.int .i64 8))])), (.op (some 18) none (.app 3 1 8 (.t 11) (.t 17))), (.op (some 3) none (.mv (.t 18)))])) (.reg [(.op (some 9) none (.mv (.t 4))),
  (.op (some 10) none (.bin .add (.t 9) (.c (.int .i64 1)))), (.op (some 4) none (.mv (.t 10)))])))
def s102_0 (S : Sys) (e : Fe) (H : Heap) (Q : Kx) : Prop := run S (.lenL (.c (e 0))) [] H fun t7_4 H => run S (.bin .lss (.c (e 4)) (.c t7_4)) [] H fun t8_5 H => jn (sq
  (fun e7 H => jn (sq (fun e9 H => run S (.bin .add (.c (e9 4)) (.c (.int .i64 1))) [] H fun t10_10 H => Q .normal (upd (upd (upd e9 9 (e9 4)) 10 t10_10) 4 t10_10) H) Q)
  fun Q8 => run S (.iad 1 (.c (e7 0)) (.c (e7 4))) [] H fun t14_11 H => run S (.ld (.c t14_11)) [] H fun t15_12 H => run S (.cvt .u32 (.c t15_12)) [] H fun t16_13 H =>
  run S (.call 150 [(.c t16_13), (.c (.int .i64 8))]) [] H fun t17_14 H => run S (.app 3 1 8 (.c (e7 3)) (.c t17_14)) [] H fun t18_15 H => Q8 .normal (upd (upd (upd (upd
  (upd (upd (upd (upd (upd e7 11 (e7 3)) 12 (e7 0)) 13 (e7 4)) 14 t14_11) 15 t15_12) 16 t16_13) 17 t17_14) 18 t18_15) 3 t18_15) H) Q) fun Q6 => cnd t8_5 (fun Q16 => Q16
  .normal (upd (upd (upd (upd e 5 (e 4)) 6 (e 0)) 7 t7_4) 8 t8_5) H) (fun Q17 => Q17 (.exit 0) (upd (upd (upd (upd e 5 (e 4)) 6 (e 0)) 7 t7_4) 8 t8_5) H) Q6
theorem h102_0 (S : Sys) (e : Fe) (H : Heap) (Q : Kx) : wpC S b102_0 e H Q = s102_0 S e H Q := by kernel_rfl
theorem l102_0 (S : Sys) {Q : Kx} (I : Nat → Fe → Heap → Prop) (d : Nat) {e0 : Fe} {H : Heap} (h0 : I d e0 H) (hr : ∀ (d : Nat) (e : Fe) (H : Heap), I d e H → s102_0 S e
  H (sq (fun e' H' => ∃ d', d' < d ∧ I d' e' H') Q)) : WL S b102_0 e0 H Q := WL_inv I d h0 fun d e H hi => (h102_0 S e H _).mpr (hr d e H hi)
theorem u102_0 (S : Sys) {Q : Kx} {e : Fe} {H : Heap} (h : s102_0 S e H (sq (fun e' H' => WL S b102_0 e' H' Q) Q)) : WL S b102_0 e H Q := WL_once ((h102_0 S e H _).mpr h)
def s102 (S : Sys) (a0 : Value) (H : Heap) (R : Kv) : Prop := jn (sq (fun e2 H => R (e2 3) H) (fn [(.t 2)] R)) fun Q1 => jn (blk 0 Q1) fun Q3 => WL S b102_0 (upd (upd
  (upd (Env.get [a0]) 2 (.slice none 0 0)) 3 (.slice none 0 0)) 4 (.int .i64 0)) H Q3
theorem h102 (S : Sys) (a0 : Value) (H : Heap) (R : Kv) : wpC S k102.body (Env.get [a0]) H (fn [(.t 2)] R) = s102 S a0 H R := by kernel_rfl
theorem w102 {S : Sys} (hR : S.R 102 = none) (hF : S.F 102 = some k102) (a0 : Value) {H : Heap} {R : Kv} (h : s102 S a0 H R) : Wf S 102 [a0] H R := Wf_sh hR hF ((h102 S
  a0 H R).mpr h)
def b103_0 : KCode := (.seq (.seq (.reg [(.op (some 11) none (.mv (.t 5))), (.op (some 12) none (.mv (.t 1))), (.op (some 13) none (.lenL (.t 12))), (.op (some 14) none
  (.bin .lss (.t 11) (.t 13)))]) (.cond (.t 14) .skip (.exit 0))) (.seq (.block 1 (.seq (.reg [(.op (some 17) none (.mv (.t 0))), (.op (some 18) none (.mv (.t 5))), (.op
  (some 19) none (.iad 1 (.t 17) (.t 18))), (.op (some 20) none (.ld (.t 19))), (.op (some 21) none (.mv (.t 1))), (.op (some 22) none (.mv (.t 5))), (.op (some 23) none
  (.iad 1 (.t 21) (.t 22))), (.op (some 24) none (.ld (.t 23))), (.op (some 25) none (.bin .neq (.t 20) (.t 24)))]) (.cond (.t 25) (.seq (.reg [(.op (some 4) none (.mv
  (.c (.bool false))))]) .ret) .skip))) (.reg [(.op (some 15) none (.mv (.t 5))), (.op (some 16) none (.bin .add (.t 15) (.c (.int .i64 1)))), (.op (some 5) none (.mv
  (.t 16)))])))
def s103_0 (S : Sys) (e : Fe) (H : Heap) (Q : Kx) : Prop := run S (.lenL (.c (e 1))) [] H fun t13_11 H => run S (.bin .lss (.c (e 5)) (.c t13_11)) [] H fun t14_12 H =>
  jn (sq (fun e14 H => jn (sq (fun e16 H => run S (.bin .add (.c (e16 5)) (.c (.int .i64 1))) [] H fun t16_17 H => Q .normal (upd (upd (upd e16 15 (e16 5)) 16 t16_17) 5
  t16_17) H) Q) fun Q15 => run S (.iad 1 (.c (e14 0)) (.c (e14 5))) [] H fun t19_18 H => run S (.ld (.c t19_18)) [] H fun t20_19 H => run S (.iad 1 (.c (e14 1)) (.c (e14
  5))) [] H fun t23_20 H => run S (.ld (.c t23_20)) [] H fun t24_21 H => run S (.bin .neq (.c t20_19) (.c t24_21)) [] H fun t25_22 H => jn (blk 1 Q15) fun Q23 => cnd
  t25_22 (fun Q24 => Q24 .ret (upd (upd (upd (upd (upd (upd (upd (upd (upd (upd e14 17 (e14 0)) 18 (e14 5)) 19 t19_18) 20 t20_19) 21 (e14 1)) 22 (e14 5)) 23 t23_20) 24
  t24_21) 25 t25_22) 4 (.bool false)) H) (fun Q25 => Q25 .normal (upd (upd (upd (upd (upd (upd (upd (upd (upd e14 17 (e14 0)) 18 (e14 5)) 19 t19_18) 20 t20_19) 21 (e14
  1)) 22 (e14 5)) 23 t23_20) 24 t24_21) 25 t25_22) H) Q23) Q) fun Q13 => cnd t14_12 (fun Q26 => Q26 .normal (upd (upd (upd (upd e 11 (e 5)) 12 (e 1)) 13 t13_11) 14
  t14_12) H) (fun Q27 => Q27 (.exit 0) (upd (upd (upd (upd e 11 (e 5)) 12 (e 1)) 13 t13_11) 14 t14_12) H) Q13
theorem h103_0 (S : Sys) (e : Fe) (H : Heap) (Q : Kx) : wpC S b103_0 e H Q = s103_0 S e H Q := by kernel_rfl
theorem l103_0 (S : Sys) {Q : Kx} (I : Nat → Fe → Heap → Prop) (d : Nat) {e0 : Fe} {H : Heap} (h0 : I d e0 H) (hr : ∀ (d : Nat) (e : Fe) (H : Heap), I d e H → s103_0 S e
  H (sq (fun e' H' => ∃ d', d' < d ∧ I d' e' H') Q)) : WL S b103_0 e0 H Q := WL_inv I d h0 fun d e H hi => (h103_0 S e H _).mpr (hr d e H hi)
theorem u103_0 (S : Sys) {Q : Kx} {e : Fe} {H : Heap} (h : s103_0 S e H (sq (fun e' H' => WL S b103_0 e' H' Q) Q)) : WL S b103_0 e H Q := WL_once ((h103_0 S e H _).mpr h)
def s103 (S : Sys) (a0 a1 : Value) (H : Heap) (R : Kv) : Prop := run S (.lenL (.c a0)) [] H fun t7_1 H => run S (.lenL (.c a1)) [] H fun t9_2 H => run S (.bin .lss (.c
  t7_1) (.c t9_2)) [] H fun t10_3 H => jn (sq (fun e5 H => jn (sq (fun e7 H => R (.bool true) H) (fn [(.t 4)] R)) fun Q6 => jn (blk 0 Q6) fun Q8 => WL S b103_0 (upd e5 5
  (.int .i64 0)) H Q8) (fn [(.t 4)] R)) fun Q4 => cnd t10_3 (fun Q9 => Q9 .ret (upd (upd (upd (upd (upd (upd (upd (Env.get [a0, a1]) 4 (.bool false)) 6 a0) 7 t7_1) 8 a1)
  9 t9_2) 10 t10_3) 4 (.bool false)) H) (fun Q10 => Q10 .normal (upd (upd (upd (upd (upd (upd (Env.get [a0, a1]) 4 (.bool false)) 6 a0) 7 t7_1) 8 a1) 9 t9_2) 10 t10_3)
  H) Q4
theorem h103 (S : Sys) (a0 a1 : Value) (H : Heap) (R : Kv) : wpC S k103.body (Env.get [a0, a1]) H (fn [(.t 4)] R) = s103 S a0 a1 H R := by kernel_rfl
theorem w103 {S : Sys} (hR : S.R 103 = none) (hF : S.F 103 = some k103) (a0 a1 : Value) {H : Heap} {R : Kv} (h : s103 S a0 a1 H R) : Wf S 103 [a0, a1] H R := Wf_sh hR hF
  ((h103 S a0 a1 H R).mpr h)
def b104_0 : KCode := (.seq (.seq (.reg [(.op (some 16) none (.mv (.t 2))), (.op (some 17) none (.bin .gtr (.t 16) (.c (.int .i64 0))))]) (.cond (.t 17) .skip (.exit
  0))) (.block 1 (.seq (.reg [(.op (some 18) none (.mv (.t 0))), (.op (some 19) none (.nck (.t 18))), (.op (some 20) none (.fad 1 (.t 19))), (.op (some 21) none (.ld (.t
  20))), (.op (some 22) none (.bin .and (.t 21) (.c (.int .i64 7)))), (.op (some 7) none (.mv (.t 22)))]) (.seq (.seq (.reg [(.op (some 23) none (.mv (.t 7))), (.op
  (some 24) none (.bin .eql (.t 23) (.c (.int .i64 0))))]) (.cond (.t 24) (.reg [(.op (some 25) none (.mv (.t 0))), (.op (some 26) none (.mv (.t 0))), (.op (some 27)
  none (.nck (.t 26))), (.op (some 28) none (.fad 0 (.t 27))), (.op (some 29) none (.ld (.t 28))), (.op (some 30) none (.bsl 5 1 [(.int .u8 0)] [(0, (1, (.c (.int .u8
  0))))])), (.op (some 31) none (.app 5 1 1 (.t 29) (.t 30))), (.op (some 32) none (.nck (.t 25))), (.op (some 33) none (.fad 0 (.t 32))), (.op none none (.st (.t 33)
  (.t 31)))]) .skip)) (.seq (.reg [(.op (some 34) none (.mv (.t 2))), (.op (some 35) none (.mv (.t 7))), (.op (some 36) none (.bin .sub (.c (.int .i64 8)) (.t 35))),
  (.op (some 37) none (.mn (.t 34) [(.t 36)])), (.op (some 8) none (.mv (.t 37)))]) (.seq (.reg [(.op (some 38) none (.mv (.t 0))), (.op (some 39) none (.nck (.t 38))),
  (.op (some 40) none (.fad 0 (.t 39))), (.op (some 41) none (.ld (.t 40))), (.op (some 42) none (.mv (.t 0))), (.op (some 43) none (.nck (.t 42))), (.op (some 44) none
  (.fad 0 (.t 43))), (.op (some 45) none (.ld (.t 44))), (.op (some 46) none (.lenL (.t 45))), (.op (some 47) none (.bin .sub (.t 46) (.c (.int .i64 1)))), (.op (some
  48) none (.iad 1 (.t 41) (.t 47))), (.op (some 49) none (.ld (.t 48))), (.op (some 50) none (.mv (.t 1))), (.op (some 51) none (.mv (.t 8))), (.op (some 52) none (.bin
  .shl (.c (.int .u32 1)) (.t 51))), (.op (some 53) none (.bin .sub (.t 52) (.c (.int .u32 1)))), (.op (some 54) none (.bin .and (.t 50) (.t 53))), (.op (some 55) none
  (.cvt .u8 (.t 54))), (.op (some 56) none (.mv (.t 7))), (.op (some 57) none (.bin .shl (.t 55) (.t 56))), (.op (some 58) none (.bin .or (.t 49) (.t 57))), (.op (some
  59) none (.iad 1 (.t 41) (.t 47))), (.op none none (.st (.t 59) (.t 58)))]) (.seq (.reg [(.op (some 60) none (.mv (.t 1))), (.op (some 61) none (.mv (.t 8))), (.op
  (some 62) none (.bin .shr (.t 60) (.t 61))), (.op (some 1) none (.mv (.t 62)))]) (.seq (.reg [(.op (some 63) none (.mv (.t 0))), (.op (some 64) none (.nck (.t 63))),
  (.op (some 65) none (.fad 1 (.t 64))), (.op (some 66) none (.ld (.t 65))), (.op (some 67) none (.mv (.t 8))), (.op (some 68) none (.bin .add (.t 66) (.t 67))), (.op
  (some 69) none (.nck (.t 63))), (.op (some 70) none (.fad 1 (.t 69))), (.op none none (.st (.t 70) (.t 68)))]) (.reg [(.op (some 71) none (.mv (.t 2))), (.op (some 72)
  none (.mv (.t 8))), (.op (some 73) none (.bin .sub (.t 71) (.t 72))), (.op (some 2) none (.mv (.t 73)))])))))))))
def s104_0 (S : Sys) (e : Fe) (H : Heap) (Q : Kx) : Prop := run S (.bin .gtr (.c (e 2)) (.c (.int .i64 0))) [] H fun t17_13 H => jn (sq (fun e15 H => run S (.nck (.c
  (e15 0))) [] H fun t19_16 H => run S (.fad 1 (.c t19_16)) [] H fun t20_17 H => run S (.ld (.c t20_17)) [] H fun t21_18 H => run S (.bin .and (.c t21_18) (.c (.int .i64
  7))) [] H fun t22_19 H => run S (.bin .eql (.c t22_19) (.c (.int .i64 0))) [] H fun t24_20 H => jn (blk 1 Q) fun Q21 => jn (sq (fun e23 H => run S (.bin .sub (.c (.int
  .i64 8)) (.c (e23 7))) [] H fun t36_24 H => run S (.mn (.c (e23 2)) [(.c t36_24)]) [] H fun t37_25 H => run S (.nck (.c (e23 0))) [] H fun t39_26 H => run S (.fad 0
  (.c t39_26)) [] H fun t40_27 H => run S (.ld (.c t40_27)) [] H fun t41_28 H => run S (.nck (.c (e23 0))) [] H fun t43_29 H => run S (.fad 0 (.c t43_29)) [] H fun
  t44_30 H => run S (.ld (.c t44_30)) [] H fun t45_31 H => run S (.lenL (.c t45_31)) [] H fun t46_32 H => run S (.bin .sub (.c t46_32) (.c (.int .i64 1))) [] H fun
  t47_33 H => run S (.iad 1 (.c t41_28) (.c t47_33)) [] H fun t48_34 H => run S (.ld (.c t48_34)) [] H fun t49_35 H => run S (.bin .shl (.c (.int .u32 1)) (.c t37_25))
  [] H fun t52_36 H => run S (.bin .sub (.c t52_36) (.c (.int .u32 1))) [] H fun t53_37 H => run S (.bin .and (.c (e23 1)) (.c t53_37)) [] H fun t54_38 H => run S (.cvt
  .u8 (.c t54_38)) [] H fun t55_39 H => run S (.bin .shl (.c t55_39) (.c (e23 7))) [] H fun t57_40 H => run S (.bin .or (.c t49_35) (.c t57_40)) [] H fun t58_41 H => run
  S (.iad 1 (.c t41_28) (.c t47_33)) [] H fun t59_42 H => run S (.st (.c t59_42) (.c t58_41)) [] H fun _ H => run S (.bin .shr (.c (e23 1)) (.c t37_25)) [] H fun t62_43
  H => run S (.nck (.c (e23 0))) [] H fun t64_44 H => run S (.fad 1 (.c t64_44)) [] H fun t65_45 H => run S (.ld (.c t65_45)) [] H fun t66_46 H => run S (.bin .add (.c
  t66_46) (.c t37_25)) [] H fun t68_47 H => run S (.nck (.c (e23 0))) [] H fun t69_48 H => run S (.fad 1 (.c t69_48)) [] H fun t70_49 H => run S (.st (.c t70_49) (.c
  t68_47)) [] H fun _ H => run S (.bin .sub (.c (e23 2)) (.c t37_25)) [] H fun t73_50 H => Q21 .normal (upd (upd (upd (upd (upd (upd (upd (upd (upd (upd (upd (upd (upd
  (upd (upd (upd (upd (upd (upd (upd (upd (upd (upd (upd (upd (upd (upd (upd (upd (upd (upd (upd (upd (upd (upd (upd (upd (upd (upd (upd (upd (upd (upd e23 34 (e23 2))
  35 (e23 7)) 36 t36_24) 37 t37_25) 8 t37_25) 38 (e23 0)) 39 t39_26) 40 t40_27) 41 t41_28) 42 (e23 0)) 43 t43_29) 44 t44_30) 45 t45_31) 46 t46_32) 47 t47_33) 48 t48_34)
  49 t49_35) 50 (e23 1)) 51 t37_25) 52 t52_36) 53 t53_37) 54 t54_38) 55 t55_39) 56 (e23 7)) 57 t57_40) 58 t58_41) 59 t59_42) 60 (e23 1)) 61 t37_25) 62 t62_43) 1 t62_43)
  63 (e23 0)) 64 t64_44) 65 t65_45) 66 t66_46) 67 t37_25) 68 t68_47) 69 t69_48) 70 t70_49) 71 (e23 2)) 72 t37_25) 73 t73_50) 2 t73_50) H) Q21) fun Q22 => cnd t24_20 (fun
  Q51 => run S (.nck (.c (e15 0))) [] H fun t27_53 H => run S (.fad 0 (.c t27_53)) [] H fun t28_54 H => run S (.ld (.c t28_54)) [] H fun t29_55 H => run S (.bsl 5 1
  [(.int .u8 0)] [(0, (1, (.c (.int .u8 0))))]) [] H fun t30_56 H => run S (.app 5 1 1 (.c t29_55) (.c t30_56)) [] H fun t31_57 H => run S (.nck (.c (e15 0))) [] H fun
  t32_58 H => run S (.fad 0 (.c t32_58)) [] H fun t33_59 H => run S (.st (.c t33_59) (.c t31_57)) [] H fun _ H => Q51 .normal (upd (upd (upd (upd (upd (upd (upd (upd
  (upd (upd (upd (upd (upd (upd (upd (upd (upd e15 18 (e15 0)) 19 t19_16) 20 t20_17) 21 t21_18) 22 t22_19) 7 t22_19) 23 t22_19) 24 t24_20) 25 (e15 0)) 26 (e15 0)) 27
  t27_53) 28 t28_54) 29 t29_55) 30 t30_56) 31 t31_57) 32 t32_58) 33 t33_59) H) (fun Q52 => Q52 .normal (upd (upd (upd (upd (upd (upd (upd (upd e15 18 (e15 0)) 19 t19_16)
  20 t20_17) 21 t21_18) 22 t22_19) 7 t22_19) 23 t22_19) 24 t24_20) H) Q22) Q) fun Q14 => cnd t17_13 (fun Q60 => Q60 .normal (upd (upd e 16 (e 2)) 17 t17_13) H) (fun Q61
  => Q61 (.exit 0) (upd (upd e 16 (e 2)) 17 t17_13) H) Q14
theorem h104_0 (S : Sys) (e : Fe) (H : Heap) (Q : Kx) : wpC S b104_0 e H Q = s104_0 S e H Q := by kernel_rfl
theorem l104_0 (S : Sys) {Q : Kx} (I : Nat → Fe → Heap → Prop) (d : Nat) {e0 : Fe} {H : Heap} (h0 : I d e0 H) (hr : ∀ (d : Nat) (e : Fe) (H : Heap), I d e H → s104_0 S e
  H (sq (fun e' H' => ∃ d', d' < d ∧ I d' e' H') Q)) : WL S b104_0 e0 H Q := WL_inv I d h0 fun d e H hi => (h104_0 S e H _).mpr (hr d e H hi)
theorem u104_0 (S : Sys) {Q : Kx} {e : Fe} {H : Heap} (h : s104_0 S e H (sq (fun e' H' => WL S b104_0 e' H' Q) Q)) : WL S b104_0 e H Q := WL_once ((h104_0 S e H _).mpr h)
def s104 (S : Sys) (a0 a1 a2 : Value) (H : Heap) (R : Kv) : Prop := run S (.eqv .ptr false (.c a0) (.c (.pointer none))) [] H fun t10_1 H => gd t10_1 false (run S (.mv
  (.c a2)) [] H) H fun t12_2 H => gd t10_1 false (run S (.call 149 [(.c t12_2)]) [] H) H fun t13_3 H => gd t10_1 false (run S (.un .not (.c t13_3)) [] H) H fun t14_4 H
  => run S (.pick (.c t10_1) (.c (.bool true)) (.c t14_4)) [] H fun t15_5 H => jn (sq (fun e7 H => jn (sq (fun e9 H => R (.bool true) H) (fn [(.t 6)] R)) fun Q8 => jn
  (blk 0 Q8) fun Q10 => WL S b104_0 e7 H Q10) (fn [(.t 6)] R)) fun Q6 => cnd t15_5 (fun Q11 => Q11 .ret (upd (upd (upd (upd (upd (upd (upd (upd (upd (Env.get [a0, a1,
  a2]) 6 (.bool false)) 9 a0) 10 t10_1) 11 t10_1) 12 t12_2) 13 t13_3) 14 t14_4) 15 t15_5) 6 (.bool false)) H) (fun Q12 => Q12 .normal (upd (upd (upd (upd (upd (upd (upd
  (upd (Env.get [a0, a1, a2]) 6 (.bool false)) 9 a0) 10 t10_1) 11 t10_1) 12 t12_2) 13 t13_3) 14 t14_4) 15 t15_5) H) Q6
theorem h104 (S : Sys) (a0 a1 a2 : Value) (H : Heap) (R : Kv) : wpC S k104.body (Env.get [a0, a1, a2]) H (fn [(.t 6)] R) = s104 S a0 a1 a2 H R := by kernel_rfl
theorem w104 {S : Sys} (hR : S.R 104 = none) (hF : S.F 104 = some k104) (a0 a1 a2 : Value) {H : Heap} {R : Kv} (h : s104 S a0 a1 a2 H R) : Wf S 104 [a0, a1, a2] H R :=
  Wf_sh hR hF ((h104 S a0 a1 a2 H R).mpr h)
def b105_0 : KCode := (.seq (.reg [(.op (some 8) none (.bin .lss (.t 7) (.t 6)))]) (.seq (.cond (.t 8) .skip (.exit 0)) (.seq (.block 1 (.seq (.reg [(.op (some 9) none
  (.mv (.t 5))), (.op (some 10) none (.bin .shl (.t 9) (.c (.int .u64 1)))), (.op (some 11) none (.mv (.t 0))), (.op (some 12) none (.bin .and (.t 11) (.c (.int .i64
  1)))), (.op (some 13) none (.cvt .u32 (.t 12))), (.op (some 14) none (.bin .or (.t 10) (.t 13))), (.op (some 5) none (.mv (.t 14)))]) (.reg [(.op (some 15) none (.mv
  (.t 0))), (.op (some 16) none (.bin .shr (.t 15) (.c (.int .u64 1)))), (.op (some 0) none (.mv (.t 16)))]))) (.reg [(.op (some 17) none (.bin .add (.t 7) (.c (.int
  .i64 1)))), (.op (some 7) none (.mv (.t 17)))]))))
def s105_0 (S : Sys) (e : Fe) (H : Heap) (Q : Kx) : Prop := run S (.bin .lss (.c (e 7)) (.c (e 6))) [] H fun t8_4 H => jn (sq (fun e6 H => jn (sq (fun e8 H => run S
  (.bin .add (.c (e8 7)) (.c (.int .i64 1))) [] H fun t17_9 H => Q .normal (upd (upd e8 17 t17_9) 7 t17_9) H) Q) fun Q7 => run S (.bin .shl (.c (e6 5)) (.c (.int .u64
  1))) [] H fun t10_10 H => run S (.bin .and (.c (e6 0)) (.c (.int .i64 1))) [] H fun t12_11 H => run S (.cvt .u32 (.c t12_11)) [] H fun t13_12 H => run S (.bin .or (.c
  t10_10) (.c t13_12)) [] H fun t14_13 H => run S (.bin .shr (.c (e6 0)) (.c (.int .u64 1))) [] H fun t16_14 H => Q7 .normal (upd (upd (upd (upd (upd (upd (upd (upd (upd
  (upd e6 9 (e6 5)) 10 t10_10) 11 (e6 0)) 12 t12_11) 13 t13_12) 14 t14_13) 5 t14_13) 15 (e6 0)) 16 t16_14) 0 t16_14) H) Q) fun Q5 => cnd t8_4 (fun Q15 => Q15 .normal
  (upd e 8 t8_4) H) (fun Q16 => Q16 (.exit 0) (upd e 8 t8_4) H) Q5
theorem h105_0 (S : Sys) (e : Fe) (H : Heap) (Q : Kx) : wpC S b105_0 e H Q = s105_0 S e H Q := by kernel_rfl
theorem l105_0 (S : Sys) {Q : Kx} (I : Nat → Fe → Heap → Prop) (d : Nat) {e0 : Fe} {H : Heap} (h0 : I d e0 H) (hr : ∀ (d : Nat) (e : Fe) (H : Heap), I d e H → s105_0 S e
  H (sq (fun e' H' => ∃ d', d' < d ∧ I d' e' H') Q)) : WL S b105_0 e0 H Q := WL_inv I d h0 fun d e H hi => (h105_0 S e H _).mpr (hr d e H hi)
theorem u105_0 (S : Sys) {Q : Kx} {e : Fe} {H : Heap} (h : s105_0 S e H (sq (fun e' H' => WL S b105_0 e' H' Q) Q)) : WL S b105_0 e H Q := WL_once ((h105_0 S e H _).mpr h)
def s105 (S : Sys) (a0 a1 : Value) (H : Heap) (R : Kv) : Prop := jn (sq (fun e2 H => R (e2 5) H) (fn [(.t 4)] R)) fun Q1 => jn (blk 0 Q1) fun Q3 => WL S b105_0 (upd (upd
  (upd (upd (Env.get [a0, a1]) 4 (.int .u32 0)) 5 (.int .u32 0)) 6 a1) 7 (.int .i64 0)) H Q3
theorem h105 (S : Sys) (a0 a1 : Value) (H : Heap) (R : Kv) : wpC S k105.body (Env.get [a0, a1]) H (fn [(.t 4)] R) = s105 S a0 a1 H R := by kernel_rfl
theorem w105 {S : Sys} (hR : S.R 105 = none) (hF : S.F 105 = some k105) (a0 a1 : Value) {H : Heap} {R : Kv} (h : s105 S a0 a1 H R) : Wf S 105 [a0, a1] H R := Wf_sh hR hF
  ((h105 S a0 a1 H R).mpr h)
def s106 (S : Sys) (a0 : Value) (H : Heap) (R : Kv) : Prop := run S (.eqv .ptr false (.c a0) (.c (.pointer none))) [] H fun t4_1 H => jn (sq (fun e3 H => run S (.nck (.c
  (e3 0))) [] H fun t6_4 H => run S (.fad 0 (.c t6_4)) [] H fun t7_5 H => run S (.ld (.c t7_5)) [] H fun t8_6 H => run S (.app 5 1 1 (.c (.slice none 0 0)) (.c t8_6)) []
  H fun t9_7 H => R t9_7 H) (fn [(.t 2)] R)) fun Q2 => cnd t4_1 (fun Q8 => Q8 .ret (upd (upd (upd (upd (Env.get [a0]) 2 (.slice none 0 0)) 3 a0) 4 t4_1) 2 (.slice none 0
  0)) H) (fun Q9 => Q9 .normal (upd (upd (upd (Env.get [a0]) 2 (.slice none 0 0)) 3 a0) 4 t4_1) H) Q2
theorem h106 (S : Sys) (a0 : Value) (H : Heap) (R : Kv) : wpC S k106.body (Env.get [a0]) H (fn [(.t 2)] R) = s106 S a0 H R := by kernel_rfl
theorem w106 {S : Sys} (hR : S.R 106 = none) (hF : S.F 106 = some k106) (a0 : Value) {H : Heap} {R : Kv} (h : s106 S a0 H R) : Wf S 106 [a0] H R := Wf_sh hR hF ((h106 S
  a0 H R).mpr h)
def b107_0 : KCode := (.seq (.seq (.reg [(.op (some 6) none (.mv (.t 3))), (.op (some 7) none (.bin .gtr (.t 6) (.c (.int .i64 0)))), (.op (some 8) none (.mv (.t 7))),
  (.op (some 9) (some (8, true)) (.mv (.t 0))), (.op (some 10) (some (8, true)) (.mv (.t 3))), (.op (some 11) (some (8, true)) (.bin .sub (.t 10) (.c (.int .i64 1)))),
  (.op (some 12) (some (8, true)) (.iad 1 (.t 9) (.t 11))), (.op (some 13) (some (8, true)) (.ld (.t 12))), (.op (some 14) (some (8, true)) (.bin .eql (.t 13) (.c (.int
  .i64 0)))), (.op (some 15) none (.pick (.t 8) (.t 14) (.c (.bool false))))]) (.cond (.t 15) .skip (.exit 0))) (.block 1 (.reg [(.op (some 16) none (.mv (.t 3))), (.op
  (some 17) none (.bin .sub (.t 16) (.c (.int .i64 1)))), (.op (some 3) none (.mv (.t 17)))])))
def s107_0 (S : Sys) (e : Fe) (H : Heap) (Q : Kx) : Prop := run S (.bin .gtr (.c (e 3)) (.c (.int .i64 0))) [] H fun t7_6 H => gd t7_6 true (run S (.mv (.c (e 0))) [] H)
  H fun t9_7 H => gd t7_6 true (run S (.mv (.c (e 3))) [] H) H fun t10_8 H => gd t7_6 true (run S (.bin .sub (.c t10_8) (.c (.int .i64 1))) [] H) H fun t11_9 H => gd
  t7_6 true (run S (.iad 1 (.c t9_7) (.c t11_9)) [] H) H fun t12_10 H => gd t7_6 true (run S (.ld (.c t12_10)) [] H) H fun t13_11 H => gd t7_6 true (run S (.bin .eql (.c
  t13_11) (.c (.int .i64 0))) [] H) H fun t14_12 H => run S (.pick (.c t7_6) (.c t14_12) (.c (.bool false))) [] H fun t15_13 H => jn (sq (fun e15 H => run S (.bin .sub
  (.c (e15 3)) (.c (.int .i64 1))) [] H fun t17_16 H => Q .normal (upd (upd (upd e15 16 (e15 3)) 17 t17_16) 3 t17_16) H) Q) fun Q14 => cnd t15_13 (fun Q17 => Q17 .normal
  (upd (upd (upd (upd (upd (upd (upd (upd (upd (upd e 6 (e 3)) 7 t7_6) 8 t7_6) 9 t9_7) 10 t10_8) 11 t11_9) 12 t12_10) 13 t13_11) 14 t14_12) 15 t15_13) H) (fun Q18 => Q18
  (.exit 0) (upd (upd (upd (upd (upd (upd (upd (upd (upd (upd e 6 (e 3)) 7 t7_6) 8 t7_6) 9 t9_7) 10 t10_8) 11 t11_9) 12 t12_10) 13 t13_11) 14 t14_12) 15 t15_13) H) Q14
theorem h107_0 (S : Sys) (e : Fe) (H : Heap) (Q : Kx) : wpC S b107_0 e H Q = s107_0 S e H Q := by kernel_rfl
theorem l107_0 (S : Sys) {Q : Kx} (I : Nat → Fe → Heap → Prop) (d : Nat) {e0 : Fe} {H : Heap} (h0 : I d e0 H) (hr : ∀ (d : Nat) (e : Fe) (H : Heap), I d e H → s107_0 S e
  H (sq (fun e' H' => ∃ d', d' < d ∧ I d' e' H') Q)) : WL S b107_0 e0 H Q := WL_inv I d h0 fun d e H hi => (h107_0 S e H _).mpr (hr d e H hi)
theorem u107_0 (S : Sys) {Q : Kx} {e : Fe} {H : Heap} (h : s107_0 S e H (sq (fun e' H' => WL S b107_0 e' H' Q) Q)) : WL S b107_0 e H Q := WL_once ((h107_0 S e H _).mpr h)
def s107 (S : Sys) (a0 : Value) (H : Heap) (R : Kv) : Prop := run S (.lenL (.c a0)) [] H fun t5_1 H => jn (sq (fun e3 H => run S (.slc 3 1 (.c (e3 0)) none (some (.c (e3
  3)))) [] H fun t20_4 H => R t20_4 H) (fn [(.t 2)] R)) fun Q2 => jn (blk 0 Q2) fun Q5 => WL S b107_0 (upd (upd (upd (upd (Env.get [a0]) 2 (.slice none 0 0)) 4 a0) 5
  t5_1) 3 t5_1) H Q5
theorem h107 (S : Sys) (a0 : Value) (H : Heap) (R : Kv) : wpC S k107.body (Env.get [a0]) H (fn [(.t 2)] R) = s107 S a0 H R := by kernel_rfl
theorem w107 {S : Sys} (hR : S.R 107 = none) (hF : S.F 107 = some k107) (a0 : Value) {H : Heap} {R : Kv} (h : s107 S a0 H R) : Wf S 107 [a0] H R := Wf_sh hR hF ((h107 S
  a0 H R).mpr h)
def b108_0 : KCode := (.seq (.seq (.reg [(.op (some 5) none (.mv (.t 4))), (.op (some 6) none (.mv (.t 0))), (.op (some 7) none (.lenL (.t 6))), (.op (some 8) none (.bin
  .lss (.t 5) (.t 7)))]) (.cond (.t 8) .skip (.exit 0))) (.seq (.block 1 (.seq (.seq (.reg [(.op (some 11) none (.mv (.t 4))), (.op (some 12) none (.bin .rem (.t 11) (.c
  (.int .i64 8)))), (.op (some 13) none (.bin .eql (.t 12) (.c (.int .i64 0))))]) (.cond (.t 13) (.reg [(.op (some 14) none (.mv (.t 3))), (.op (some 15) none (.bsl 5 1
  [(.int .u8 0)] [(0, (1, (.c (.int .u8 0))))])), (.op (some 16) none (.app 5 1 1 (.t 14) (.t 15))), (.op (some 3) none (.mv (.t 16)))]) .skip)) (.seq (.reg [(.op (some
  17) none (.mv (.t 0))), (.op (some 18) none (.mv (.t 4))), (.op (some 19) none (.iad 1 (.t 17) (.t 18))), (.op (some 20) none (.ld (.t 19))), (.op (some 21) none (.bin
  .eql (.t 20) (.c (.int .i64 1))))]) (.cond (.t 21) (.reg [(.op (some 22) none (.mv (.t 3))), (.op (some 23) none (.mv (.t 4))), (.op (some 24) none (.bin .quo (.t 23)
  (.c (.int .i64 8)))), (.op (some 25) none (.mv (.t 3))), (.op (some 26) none (.mv (.t 4))), (.op (some 27) none (.bin .quo (.t 26) (.c (.int .i64 8)))), (.op (some 28)
  none (.iad 1 (.t 25) (.t 27))), (.op (some 29) none (.ld (.t 28))), (.op (some 30) none (.mv (.t 4))), (.op (some 31) none (.bin .rem (.t 30) (.c (.int .i64 8)))),
  (.op (some 32) none (.bin .shl (.c (.int .u8 1)) (.t 31))), (.op (some 33) none (.bin .or (.t 29) (.t 32))), (.op (some 34) none (.iad 1 (.t 22) (.t 24))), (.op none
  none (.st (.t 34) (.t 33)))]) .skip)))) (.reg [(.op (some 9) none (.mv (.t 4))), (.op (some 10) none (.bin .add (.t 9) (.c (.int .i64 1)))), (.op (some 4) none (.mv
  (.t 10)))])))
def s108_0 (S : Sys) (e : Fe) (H : Heap) (Q : Kx) : Prop := run S (.lenL (.c (e 0))) [] H fun t7_4 H => run S (.bin .lss (.c (e 4)) (.c t7_4)) [] H fun t8_5 H => jn (sq
  (fun e7 H => jn (sq (fun e9 H => run S (.bin .add (.c (e9 4)) (.c (.int .i64 1))) [] H fun t10_10 H => Q .normal (upd (upd (upd e9 9 (e9 4)) 10 t10_10) 4 t10_10) H) Q)
  fun Q8 => run S (.bin .rem (.c (e7 4)) (.c (.int .i64 8))) [] H fun t12_11 H => run S (.bin .eql (.c t12_11) (.c (.int .i64 0))) [] H fun t13_12 H => jn (blk 1 Q8) fun
  Q13 => jn (sq (fun e15 H => run S (.iad 1 (.c (e15 0)) (.c (e15 4))) [] H fun t19_16 H => run S (.ld (.c t19_16)) [] H fun t20_17 H => run S (.bin .eql (.c t20_17) (.c
  (.int .i64 1))) [] H fun t21_18 H => cnd t21_18 (fun Q19 => run S (.bin .quo (.c (e15 4)) (.c (.int .i64 8))) [] H fun t24_21 H => run S (.bin .quo (.c (e15 4)) (.c
  (.int .i64 8))) [] H fun t27_22 H => run S (.iad 1 (.c (e15 3)) (.c t27_22)) [] H fun t28_23 H => run S (.ld (.c t28_23)) [] H fun t29_24 H => run S (.bin .rem (.c
  (e15 4)) (.c (.int .i64 8))) [] H fun t31_25 H => run S (.bin .shl (.c (.int .u8 1)) (.c t31_25)) [] H fun t32_26 H => run S (.bin .or (.c t29_24) (.c t32_26)) [] H
  fun t33_27 H => run S (.iad 1 (.c (e15 3)) (.c t24_21)) [] H fun t34_28 H => run S (.st (.c t34_28) (.c t33_27)) [] H fun _ H => Q19 .normal (upd (upd (upd (upd (upd
  (upd (upd (upd (upd (upd (upd (upd (upd (upd (upd (upd (upd (upd e15 17 (e15 0)) 18 (e15 4)) 19 t19_16) 20 t20_17) 21 t21_18) 22 (e15 3)) 23 (e15 4)) 24 t24_21) 25
  (e15 3)) 26 (e15 4)) 27 t27_22) 28 t28_23) 29 t29_24) 30 (e15 4)) 31 t31_25) 32 t32_26) 33 t33_27) 34 t34_28) H) (fun Q20 => Q20 .normal (upd (upd (upd (upd (upd e15
  17 (e15 0)) 18 (e15 4)) 19 t19_16) 20 t20_17) 21 t21_18) H) Q13) Q13) fun Q14 => cnd t13_12 (fun Q29 => run S (.bsl 5 1 [(.int .u8 0)] [(0, (1, (.c (.int .u8 0))))])
  [] H fun t15_31 H => run S (.app 5 1 1 (.c (e7 3)) (.c t15_31)) [] H fun t16_32 H => Q29 .normal (upd (upd (upd (upd (upd (upd (upd e7 11 (e7 4)) 12 t12_11) 13 t13_12)
  14 (e7 3)) 15 t15_31) 16 t16_32) 3 t16_32) H) (fun Q30 => Q30 .normal (upd (upd (upd e7 11 (e7 4)) 12 t12_11) 13 t13_12) H) Q14) Q) fun Q6 => cnd t8_5 (fun Q33 => Q33
  .normal (upd (upd (upd (upd e 5 (e 4)) 6 (e 0)) 7 t7_4) 8 t8_5) H) (fun Q34 => Q34 (.exit 0) (upd (upd (upd (upd e 5 (e 4)) 6 (e 0)) 7 t7_4) 8 t8_5) H) Q6
theorem h108_0 (S : Sys) (e : Fe) (H : Heap) (Q : Kx) : wpC S b108_0 e H Q = s108_0 S e H Q := by kernel_rfl
theorem l108_0 (S : Sys) {Q : Kx} (I : Nat → Fe → Heap → Prop) (d : Nat) {e0 : Fe} {H : Heap} (h0 : I d e0 H) (hr : ∀ (d : Nat) (e : Fe) (H : Heap), I d e H → s108_0 S e
  H (sq (fun e' H' => ∃ d', d' < d ∧ I d' e' H') Q)) : WL S b108_0 e0 H Q := WL_inv I d h0 fun d e H hi => (h108_0 S e H _).mpr (hr d e H hi)
theorem u108_0 (S : Sys) {Q : Kx} {e : Fe} {H : Heap} (h : s108_0 S e H (sq (fun e' H' => WL S b108_0 e' H' Q) Q)) : WL S b108_0 e H Q := WL_once ((h108_0 S e H _).mpr h)
def s108 (S : Sys) (a0 : Value) (H : Heap) (R : Kv) : Prop := jn (sq (fun e2 H => R (e2 3) H) (fn [(.t 2)] R)) fun Q1 => jn (blk 0 Q1) fun Q3 => WL S b108_0 (upd (upd
  (upd (Env.get [a0]) 2 (.slice none 0 0)) 3 (.slice none 0 0)) 4 (.int .i64 0)) H Q3
theorem h108 (S : Sys) (a0 : Value) (H : Heap) (R : Kv) : wpC S k108.body (Env.get [a0]) H (fn [(.t 2)] R) = s108 S a0 H R := by kernel_rfl
theorem w108 {S : Sys} (hR : S.R 108 = none) (hF : S.F 108 = some k108) (a0 : Value) {H : Heap} {R : Kv} (h : s108 S a0 H R) : Wf S 108 [a0] H R := Wf_sh hR hF ((h108 S
  a0 H R).mpr h)
def b109_0 : KCode := (.seq (.reg [(.op (some 15) none (.bin .lss (.t 14) (.t 13)))]) (.seq (.cond (.t 15) .skip (.exit 0)) (.seq (.block 1 (.seq (.reg [(.op (some 16)
  none (.mv (.t 14))), (.op (some 17) none (.iad 1 (.t 12) (.t 14))), (.op (some 18) none (.ld (.t 17))), (.op (some 6) none (.mv (.t 16))), (.op (some 7) none (.mv (.t
  18)))]) (.reg [(.op (some 19) none (.mv (.t 5))), (.op (some 20) none (.mv (.t 7))), (.op (some 21) none (.cvt .u64 (.t 20))), (.op (some 22) none (.mv (.t 6))), (.op
  (some 23) none (.bin .mul (.c (.int .i64 8)) (.t 22))), (.op (some 24) none (.bin .shl (.t 21) (.t 23))), (.op (some 25) none (.bin .or (.t 19) (.t 24))), (.op (some
  5) none (.mv (.t 25)))]))) (.reg [(.op (some 26) none (.bin .add (.t 14) (.c (.int .i64 1)))), (.op (some 14) none (.mv (.t 26)))]))))
def s109_0 (S : Sys) (e : Fe) (H : Heap) (Q : Kx) : Prop := run S (.bin .lss (.c (e 14)) (.c (e 13))) [] H fun t15_8 H => jn (sq (fun e10 H => jn (sq (fun e12 H => run S
  (.bin .add (.c (e12 14)) (.c (.int .i64 1))) [] H fun t26_13 H => Q .normal (upd (upd e12 26 t26_13) 14 t26_13) H) Q) fun Q11 => run S (.iad 1 (.c (e10 12)) (.c (e10
  14))) [] H fun t17_14 H => run S (.ld (.c t17_14)) [] H fun t18_15 H => run S (.cvt .u64 (.c t18_15)) [] H fun t21_16 H => run S (.bin .mul (.c (.int .i64 8)) (.c (e10
  14))) [] H fun t23_17 H => run S (.bin .shl (.c t21_16) (.c t23_17)) [] H fun t24_18 H => run S (.bin .or (.c (e10 5)) (.c t24_18)) [] H fun t25_19 H => Q11 .normal
  (upd (upd (upd (upd (upd (upd (upd (upd (upd (upd (upd (upd (upd e10 16 (e10 14)) 17 t17_14) 18 t18_15) 6 (e10 14)) 7 t18_15) 19 (e10 5)) 20 t18_15) 21 t21_16) 22 (e10
  14)) 23 t23_17) 24 t24_18) 25 t25_19) 5 t25_19) H) Q) fun Q9 => cnd t15_8 (fun Q20 => Q20 .normal (upd e 15 t15_8) H) (fun Q21 => Q21 (.exit 0) (upd e 15 t15_8) H) Q9
theorem h109_0 (S : Sys) (e : Fe) (H : Heap) (Q : Kx) : wpC S b109_0 e H Q = s109_0 S e H Q := by kernel_rfl
theorem l109_0 (S : Sys) {Q : Kx} (I : Nat → Fe → Heap → Prop) (d : Nat) {e0 : Fe} {H : Heap} (h0 : I d e0 H) (hr : ∀ (d : Nat) (e : Fe) (H : Heap), I d e H → s109_0 S e
  H (sq (fun e' H' => ∃ d', d' < d ∧ I d' e' H') Q)) : WL S b109_0 e0 H Q := WL_inv I d h0 fun d e H hi => (h109_0 S e H _).mpr (hr d e H hi)
theorem u109_0 (S : Sys) {Q : Kx} {e : Fe} {H : Heap} (h : s109_0 S e H (sq (fun e' H' => WL S b109_0 e' H' Q) Q)) : WL S b109_0 e H Q := WL_once ((h109_0 S e H _).mpr h)
def s109 (S : Sys) (a0 a1 : Value) (H : Heap) (R : Kv) : Prop := run S (.call 147 [(.c a1)]) [] H fun t10_1 H => run S (.call 110 [(.c a0), (.c t10_1)]) [] H fun t11_2 H
  => run S (.s2b 5 (.c t11_2)) [] H fun t12_3 H => run S (.lenL (.c t12_3)) [] H fun t13_4 H => jn (sq (fun e6 H => R (e6 5) H) (fn [(.t 4)] R)) fun Q5 => jn (blk 0 Q5)
  fun Q7 => WL S b109_0 (upd (upd (upd (upd (upd (upd (upd (upd (upd (Env.get [a0, a1]) 4 (.int .u64 0)) 5 (.int .u64 0)) 8 a0) 9 a1) 10 t10_1) 11 t11_2) 12 t12_3) 13
  t13_4) 14 (.int .i64 0)) H Q7
theorem h109 (S : Sys) (a0 a1 : Value) (H : Heap) (R : Kv) : wpC S k109.body (Env.get [a0, a1]) H (fn [(.t 4)] R) = s109 S a0 a1 H R := by kernel_rfl
theorem w109 {S : Sys} (hR : S.R 109 = none) (hF : S.F 109 = some k109) (a0 a1 : Value) {H : Heap} {R : Kv} (h : s109 S a0 a1 H R) : Wf S 109 [a0, a1] H R := Wf_sh hR hF
  ((h109 S a0 a1 H R).mpr h)
def s110 (S : Sys) (a0 a1 : Value) (H : Heap) (R : Kv) : Prop := run S (.mx (.c a1) [(.c (.int .i64 0))]) [] H fun t7_1 H => run S (.call 111 [(.c a0)]) [] H fun t9_2 H
  => gd t9_2 false (run S (.mv (.c a0)) [] H) H fun t11_3 H => gd t9_2 false (run S (.nck (.c t11_3)) [] H) H fun t12_4 H => gd t9_2 false (run S (.fad 0 (.c t12_4)) []
  H) H fun t13_5 H => gd t9_2 false (run S (.ld (.c t13_5)) [] H) H fun t14_6 H => gd t9_2 false (run S (.lenS (.c t14_6)) [] H) H fun t15_7 H => gd t9_2 false (run S
  (.mv (.c t7_1)) [] H) H fun t16_8 H => gd t9_2 false (run S (.bin .lss (.c t15_7) (.c t16_8)) [] H) H fun t17_9 H => run S (.pick (.c t9_2) (.c (.bool true)) (.c
  t17_9)) [] H fun t18_10 H => jn (sq (fun e12 H => run S (.nck (.c (e12 0))) [] H fun t22_13 H => run S (.fad 0 (.c t22_13)) [] H fun t23_14 H => run S (.ld (.c
  t23_14)) [] H fun t24_15 H => run S (.slS (.c t24_15) none (some (.c (e12 1)))) [] H fun t26_16 H => run S (.nck (.c (e12 0))) [] H fun t29_17 H => run S (.fad 0 (.c
  t29_17)) [] H fun t30_18 H => run S (.ld (.c t30_18)) [] H fun t31_19 H => run S (.slS (.c t31_19) (some (.c (e12 1))) none) [] H fun t33_20 H => run S (.nck (.c (e12
  0))) [] H fun t34_21 H => run S (.fad 0 (.c t34_21)) [] H fun t35_22 H => run S (.st (.c t35_22) (.c t33_20)) [] H fun _ H => R t26_16 H) (fn [(.t 4)] R)) fun Q11 =>
  cnd t18_10 (fun Q23 => run S (.call 151 [(.c a0)]) [] H fun t20_25 H => Q23 .ret (upd (upd (upd (upd (upd (upd (upd (upd (upd (upd (upd (upd (upd (upd (upd (upd (upd
  (upd (Env.get [a0, a1]) 4 (.string (bs []))) 6 a1) 7 t7_1) 1 t7_1) 8 a0) 9 t9_2) 10 t9_2) 11 t11_3) 12 t12_4) 13 t13_5) 14 t14_6) 15 t15_7) 16 t16_8) 17 t17_9) 18
  t18_10) 19 a0) 20 t20_25) 4 (.string (bs []))) H) (fun Q24 => Q24 .normal (upd (upd (upd (upd (upd (upd (upd (upd (upd (upd (upd (upd (upd (upd (upd (Env.get [a0, a1])
  4 (.string (bs []))) 6 a1) 7 t7_1) 1 t7_1) 8 a0) 9 t9_2) 10 t9_2) 11 t11_3) 12 t12_4) 13 t13_5) 14 t14_6) 15 t15_7) 16 t16_8) 17 t17_9) 18 t18_10) H) Q11
theorem h110 (S : Sys) (a0 a1 : Value) (H : Heap) (R : Kv) : wpC S k110.body (Env.get [a0, a1]) H (fn [(.t 4)] R) = s110 S a0 a1 H R := by kernel_rfl
theorem w110 {S : Sys} (hR : S.R 110 = none) (hF : S.F 110 = some k110) (a0 a1 : Value) {H : Heap} {R : Kv} (h : s110 S a0 a1 H R) : Wf S 110 [a0, a1] H R := Wf_sh hR hF
  ((h110 S a0 a1 H R).mpr h)
def s111 (S : Sys) (a0 : Value) (H : Heap) (R : Kv) : Prop := run S (.eqv .ptr false (.c a0) (.c (.pointer none))) [] H fun t4_1 H => gd t4_1 false (run S (.mv (.c a0))
  [] H) H fun t6_2 H => gd t4_1 false (run S (.nck (.c t6_2)) [] H) H fun t7_3 H => gd t4_1 false (run S (.fad 1 (.c t7_3)) [] H) H fun t8_4 H => gd t4_1 false (run S
  (.ld (.c t8_4)) [] H) H fun t9_5 H => run S (.pick (.c t4_1) (.c (.bool true)) (.c t9_5)) [] H fun t10_6 H => R t10_6 H
theorem h111 (S : Sys) (a0 : Value) (H : Heap) (R : Kv) : wpC S k111.body (Env.get [a0]) H (fn [(.t 2)] R) = s111 S a0 H R := by kernel_rfl
theorem w111 {S : Sys} (hR : S.R 111 = none) (hF : S.F 111 = some k111) (a0 : Value) {H : Heap} {R : Kv} (h : s111 S a0 H R) : Wf S 111 [a0] H R := Wf_sh hR hF ((h111 S
  a0 H R).mpr h)
def b130_0 : KCode := (.seq (.reg [(.op (some 8) none (.bin .lss (.t 7) (.t 6)))]) (.seq (.cond (.t 8) .skip (.exit 0)) (.seq (.block 1 (.seq (.reg [(.op (some 9) none
  (.iad 1 (.t 5) (.t 7))), (.op (some 10) none (.ld (.t 9))), (.op (some 4) none (.mv (.t 10)))]) (.seq (.reg [(.op (some 11) none (.mv (.t 4))), (.op (some 12) none
  (.bin .lss (.t 11) (.c (.int .i64 0)))), (.op (some 13) none (.mv (.t 12))), (.op (some 14) (some (13, false)) (.mv (.t 4))), (.op (some 15) (some (13, false)) (.bin
  .gtr (.t 14) (.c (.int .i64 11)))), (.op (some 16) none (.pick (.t 13) (.c (.bool true)) (.t 15)))]) (.cond (.t 16) (.seq (.reg [(.op (some 2) none (.mv (.c (.bool
  false))))]) .ret) .skip)))) (.reg [(.op (some 17) none (.bin .add (.t 7) (.c (.int .i64 1)))), (.op (some 7) none (.mv (.t 17)))]))))
def s130_0 (S : Sys) (e : Fe) (H : Heap) (Q : Kx) : Prop := run S (.bin .lss (.c (e 7)) (.c (e 6))) [] H fun t8_7 H => jn (sq (fun e9 H => jn (sq (fun e11 H => run S
  (.bin .add (.c (e11 7)) (.c (.int .i64 1))) [] H fun t17_12 H => Q .normal (upd (upd e11 17 t17_12) 7 t17_12) H) Q) fun Q10 => run S (.iad 1 (.c (e9 5)) (.c (e9 7)))
  [] H fun t9_13 H => run S (.ld (.c t9_13)) [] H fun t10_14 H => run S (.bin .lss (.c t10_14) (.c (.int .i64 0))) [] H fun t12_15 H => gd t12_15 false (run S (.mv (.c
  t10_14)) [] H) H fun t14_16 H => gd t12_15 false (run S (.bin .gtr (.c t14_16) (.c (.int .i64 11))) [] H) H fun t15_17 H => run S (.pick (.c t12_15) (.c (.bool true))
  (.c t15_17)) [] H fun t16_18 H => jn (blk 1 Q10) fun Q19 => cnd t16_18 (fun Q20 => Q20 .ret (upd (upd (upd (upd (upd (upd (upd (upd (upd (upd e9 9 t9_13) 10 t10_14) 4
  t10_14) 11 t10_14) 12 t12_15) 13 t12_15) 14 t14_16) 15 t15_17) 16 t16_18) 2 (.bool false)) H) (fun Q21 => Q21 .normal (upd (upd (upd (upd (upd (upd (upd (upd (upd e9 9
  t9_13) 10 t10_14) 4 t10_14) 11 t10_14) 12 t12_15) 13 t12_15) 14 t14_16) 15 t15_17) 16 t16_18) H) Q19) Q) fun Q8 => cnd t8_7 (fun Q22 => Q22 .normal (upd e 8 t8_7) H)
  (fun Q23 => Q23 (.exit 0) (upd e 8 t8_7) H) Q8
theorem h130_0 (S : Sys) (e : Fe) (H : Heap) (Q : Kx) : wpC S b130_0 e H Q = s130_0 S e H Q := by kernel_rfl
theorem l130_0 (S : Sys) {Q : Kx} (I : Nat → Fe → Heap → Prop) (d : Nat) {e0 : Fe} {H : Heap} (h0 : I d e0 H) (hr : ∀ (d : Nat) (e : Fe) (H : Heap), I d e H → s130_0 S e
  H (sq (fun e' H' => ∃ d', d' < d ∧ I d' e' H') Q)) : WL S b130_0 e0 H Q := WL_inv I d h0 fun d e H hi => (h130_0 S e H _).mpr (hr d e H hi)
theorem u130_0 (S : Sys) {Q : Kx} {e : Fe} {H : Heap} (h : s130_0 S e H (sq (fun e' H' => WL S b130_0 e' H' Q) Q)) : WL S b130_0 e H Q := WL_once ((h130_0 S e H _).mpr h)
def s130 (S : Sys) (a0 : Value) (H : Heap) (R : Kv) : Prop := run S (.lenL (.c a0)) [] H fun t6_1 H => jn (sq (fun e3 H => run S (.lenL (.c (e3 0))) [] H fun t19_4 H =>
  run S (.bin .leq (.c t19_4) (.c (.int .i64 256))) [] H fun t20_5 H => R t20_5 H) (fn [(.t 2)] R)) fun Q2 => jn (blk 0 Q2) fun Q6 => WL S b130_0 (upd (upd (upd (upd
  (Env.get [a0]) 2 (.bool false)) 5 a0) 6 t6_1) 7 (.int .i64 0)) H Q6
theorem h130 (S : Sys) (a0 : Value) (H : Heap) (R : Kv) : wpC S k130.body (Env.get [a0]) H (fn [(.t 2)] R) = s130 S a0 H R := by kernel_rfl
theorem w130 {S : Sys} (hR : S.R 130 = none) (hF : S.F 130 = some k130) (a0 : Value) {H : Heap} {R : Kv} (h : s130 S a0 H R) : Wf S 130 [a0] H R := Wf_sh hR hF ((h130 S
  a0 H R).mpr h)
def b131_0 : KCode := (.seq (.reg [(.op (some 11) none (.bin .lss (.t 10) (.t 9)))]) (.seq (.cond (.t 11) .skip (.exit 0)) (.seq (.block 1 (.seq (.reg [(.op (some 12)
  none (.iad 1 (.t 8) (.t 10))), (.op (some 13) none (.ld (.t 12))), (.op (some 4) none (.mv (.t 13)))]) (.seq (.reg [(.op (some 14) none (.mv (.t 4))), (.op (some 15)
  none (.bin .lss (.t 14) (.c (.int .i64 0)))), (.op (some 16) none (.mv (.t 15))), (.op (some 17) (some (16, false)) (.mv (.t 4))), (.op (some 18) (some (16, false))
  (.bin .gtr (.t 17) (.c (.int .i64 1048576)))), (.op (some 19) none (.pick (.t 16) (.c (.bool true)) (.t 18)))]) (.cond (.t 19) (.seq (.reg [(.op (some 2) none (.mv (.c
  (.bool false))))]) .ret) .skip)))) (.reg [(.op (some 20) none (.bin .add (.t 10) (.c (.int .i64 1)))), (.op (some 10) none (.mv (.t 20)))]))))
def s131_0 (S : Sys) (e : Fe) (H : Heap) (Q : Kx) : Prop := run S (.bin .lss (.c (e 10)) (.c (e 9))) [] H fun t11_13 H => jn (sq (fun e15 H => jn (sq (fun e17 H => run S
  (.bin .add (.c (e17 10)) (.c (.int .i64 1))) [] H fun t20_18 H => Q .normal (upd (upd e17 20 t20_18) 10 t20_18) H) Q) fun Q16 => run S (.iad 1 (.c (e15 8)) (.c (e15
  10))) [] H fun t12_19 H => run S (.ld (.c t12_19)) [] H fun t13_20 H => run S (.bin .lss (.c t13_20) (.c (.int .i64 0))) [] H fun t15_21 H => gd t15_21 false (run S
  (.mv (.c t13_20)) [] H) H fun t17_22 H => gd t15_21 false (run S (.bin .gtr (.c t17_22) (.c (.int .i64 1048576))) [] H) H fun t18_23 H => run S (.pick (.c t15_21) (.c
  (.bool true)) (.c t18_23)) [] H fun t19_24 H => jn (blk 1 Q16) fun Q25 => cnd t19_24 (fun Q26 => Q26 .ret (upd (upd (upd (upd (upd (upd (upd (upd (upd (upd e15 12
  t12_19) 13 t13_20) 4 t13_20) 14 t13_20) 15 t15_21) 16 t15_21) 17 t17_22) 18 t18_23) 19 t19_24) 2 (.bool false)) H) (fun Q27 => Q27 .normal (upd (upd (upd (upd (upd
  (upd (upd (upd (upd e15 12 t12_19) 13 t13_20) 4 t13_20) 14 t13_20) 15 t15_21) 16 t15_21) 17 t17_22) 18 t18_23) 19 t19_24) H) Q25) Q) fun Q14 => cnd t11_13 (fun Q28 =>
  Q28 .normal (upd e 11 t11_13) H) (fun Q29 => Q29 (.exit 0) (upd e 11 t11_13) H) Q14
theorem h131_0 (S : Sys) (e : Fe) (H : Heap) (Q : Kx) : wpC S b131_0 e H Q = s131_0 S e H Q := by kernel_rfl
theorem l131_0 (S : Sys) {Q : Kx} (I : Nat → Fe → Heap → Prop) (d : Nat) {e0 : Fe} {H : Heap} (h0 : I d e0 H) (hr : ∀ (d : Nat) (e : Fe) (H : Heap), I d e H → s131_0 S e
  H (sq (fun e' H' => ∃ d', d' < d ∧ I d' e' H') Q)) : WL S b131_0 e0 H Q := WL_inv I d h0 fun d e H hi => (h131_0 S e H _).mpr (hr d e H hi)
theorem u131_0 (S : Sys) {Q : Kx} {e : Fe} {H : Heap} (h : s131_0 S e H (sq (fun e' H' => WL S b131_0 e' H' Q) Q)) : WL S b131_0 e H Q := WL_once ((h131_0 S e H _).mpr h)
def s131 (S : Sys) (a0 : Value) (H : Heap) (R : Kv) : Prop := run S (.lenL (.c a0)) [] H fun t6_1 H => run S (.bin .gtr (.c t6_1) (.c (.int .i64 256))) [] H fun t7_2 H
  => jn (sq (fun e4 H => run S (.lenL (.c (e4 0))) [] H fun t9_5 H => jn (sq (fun e7 H => run S (.call 162 [(.c (e7 0))]) [] H fun t22_8 H => run S (.bin .gtr (.c t22_8)
  (.c (.int .i64 0))) [] H fun t23_9 H => R t23_9 H) (fn [(.t 2)] R)) fun Q6 => jn (blk 0 Q6) fun Q10 => WL S b131_0 (upd (upd (upd e4 8 (e4 0)) 9 t9_5) 10 (.int .i64
  0)) H Q10) (fn [(.t 2)] R)) fun Q3 => cnd t7_2 (fun Q11 => Q11 .ret (upd (upd (upd (upd (upd (Env.get [a0]) 2 (.bool false)) 5 a0) 6 t6_1) 7 t7_2) 2 (.bool false)) H)
  (fun Q12 => Q12 .normal (upd (upd (upd (upd (Env.get [a0]) 2 (.bool false)) 5 a0) 6 t6_1) 7 t7_2) H) Q3
theorem h131 (S : Sys) (a0 : Value) (H : Heap) (R : Kv) : wpC S k131.body (Env.get [a0]) H (fn [(.t 2)] R) = s131 S a0 H R := by kernel_rfl
theorem w131 {S : Sys} (hR : S.R 131 = none) (hF : S.F 131 = some k131) (a0 : Value) {H : Heap} {R : Kv} (h : s131 S a0 H R) : Wf S 131 [a0] H R := Wf_sh hR hF ((h131 S
  a0 H R).mpr h)
def s137 (S : Sys) (a0 : Value) (H : Heap) (R : Kv) : Prop := run S (.lenS (.c a0)) [] H fun t4_1 H => run S (.call 139 [(.c (.int .i64 0)), (.c t4_1)]) [] H fun t5_2 H
  => run S (.call 140 [(.c t5_2), (.c a0)]) [] H fun t7_3 H => run S (.call 92 [(.c t7_3)]) [] H fun t8_4 H => R t8_4 H
theorem h137 (S : Sys) (a0 : Value) (H : Heap) (R : Kv) : wpC S k137.body (Env.get [a0]) H (fn [(.t 2)] R) = s137 S a0 H R := by kernel_rfl
theorem w137 {S : Sys} (hR : S.R 137 = none) (hF : S.F 137 = some k137) (a0 : Value) {H : Heap} {R : Kv} (h : s137 S a0 H R) : Wf S 137 [a0] H R := Wf_sh hR hF ((h137 S
  a0 H R).mpr h)
def s138 (S : Sys) (a0 : Value) (H : Heap) (R : Kv) : Prop := run S (.bin .neq (.c a0) (.c (.string (bs [])))) [] H fun t4_1 H => gd t4_1 true (run S (.mv (.c a0)) [] H)
  H fun t6_2 H => gd t4_1 true (run S (.mv (.c a0)) [] H) H fun t7_3 H => gd t4_1 true (run S (.slS (.c t7_3) none (some (.c (.int .i64 1)))) [] H) H fun t8_4 H => gd
  t4_1 true (run S (.mv (.c a0)) [] H) H fun t9_5 H => gd t4_1 true (run S (.lenS (.c t9_5)) [] H) H fun t10_6 H => gd t4_1 true (run S (.call 143 [(.c t8_4), (.c
  t10_6)]) [] H) H fun t11_7 H => gd t4_1 true (run S (.bin .eql (.c t6_2) (.c t11_7)) [] H) H fun t12_8 H => run S (.pick (.c t4_1) (.c t12_8) (.c (.bool false))) [] H
  fun t13_9 H => R t13_9 H
theorem h138 (S : Sys) (a0 : Value) (H : Heap) (R : Kv) : wpC S k138.body (Env.get [a0]) H (fn [(.t 2)] R) = s138 S a0 H R := by kernel_rfl
theorem w138 {S : Sys} (hR : S.R 138 = none) (hF : S.F 138 = some k138) (a0 : Value) {H : Heap} {R : Kv} (h : s138 S a0 H R) : Wf S 138 [a0] H R := Wf_sh hR hF ((h138 S
  a0 H R).mpr h)
def s139 (S : Sys) (a0 a1 : Value) (H : Heap) (R : Kv) : Prop := run S (.alloc 110 [(.slice none 0 0)]) [] H fun t5_1 H => run S (.cvt .u64 (.c a0)) [] H fun t7_2 H =>
  run S (.call 89 [(.c t5_1), (.c t7_2), (.c (.int .i64 1))]) [] H fun t8_3 H => run S (.cvt .u64 (.c a1)) [] H fun t10_4 H => run S (.call 90 [(.c t8_3), (.c t10_4)])
  [] H fun t11_5 H => R t11_5 H
theorem h139 (S : Sys) (a0 a1 : Value) (H : Heap) (R : Kv) : wpC S k139.body (Env.get [a0, a1]) H (fn [(.t 4)] R) = s139 S a0 a1 H R := by kernel_rfl
theorem w139 {S : Sys} (hR : S.R 139 = none) (hF : S.F 139 = some k139) (a0 a1 : Value) {H : Heap} {R : Kv} (h : s139 S a0 a1 H R) : Wf S 139 [a0, a1] H R := Wf_sh hR hF
  ((h139 S a0 a1 H R).mpr h)
def s140 (S : Sys) (a0 a1 : Value) (H : Heap) (R : Kv) : Prop := run S (.eqv .ptr false (.c a0) (.c (.pointer none))) [] H fun t6_1 H => jn (sq (fun e3 H => run S (.nck
  (.c (e3 0))) [] H fun t9_4 H => run S (.fad 0 (.c t9_4)) [] H fun t10_5 H => run S (.ld (.c t10_5)) [] H fun t11_6 H => run S (.appS 5 (.c t11_6) (.c (e3 1))) [] H fun
  t13_7 H => run S (.nck (.c (e3 0))) [] H fun t14_8 H => run S (.fad 0 (.c t14_8)) [] H fun t15_9 H => run S (.st (.c t15_9) (.c t13_7)) [] H fun _ H => R (e3 0) H) (fn
  [(.t 4)] R)) fun Q2 => cnd t6_1 (fun Q10 => Q10 .ret (upd (upd (upd (upd (Env.get [a0, a1]) 4 (.pointer none)) 5 a0) 6 t6_1) 4 (.pointer none)) H) (fun Q11 => Q11
  .normal (upd (upd (upd (Env.get [a0, a1]) 4 (.pointer none)) 5 a0) 6 t6_1) H) Q2
theorem h140 (S : Sys) (a0 a1 : Value) (H : Heap) (R : Kv) : wpC S k140.body (Env.get [a0, a1]) H (fn [(.t 4)] R) = s140 S a0 a1 H R := by kernel_rfl
theorem w140 {S : Sys} (hR : S.R 140 = none) (hF : S.F 140 = some k140) (a0 a1 : Value) {H : Heap} {R : Kv} (h : s140 S a0 a1 H R) : Wf S 140 [a0, a1] H R := Wf_sh hR hF
  ((h140 S a0 a1 H R).mpr h)
def s141 (S : Sys) (a0 : Value) (H : Heap) (R : Kv) : Prop := run S (.s2b 5 (.c a0)) [] H fun t11_1 H => run S (.call 79 [(.c t11_1)]) [] H fun t12_2 H => run S (.call
  75 [(.c t12_2)]) [] H fun t13_3 H => run S (.xt (.c t13_3) 0) [] H fun t14_4 H => run S (.xt (.c t13_3) 1) [] H fun t15_5 H => run S (.un .not (.c t15_5)) [] H fun
  t17_6 H => jn (sq (fun e8 H => run S (.call 36 [(.c (e8 4))]) [] H fun t20_9 H => run S (.xt (.c t20_9) 0) [] H fun t21_10 H => run S (.xt (.c t20_9) 1) [] H fun
  t22_11 H => run S (.s2b 5 (.c (e8 0))) [] H fun t26_12 H => run S (.call 35 [(.c (e8 4)), (.c t26_12)]) [] H fun t27_13 H => run S (.xt (.c t27_13) 0) [] H fun t28_14
  H => run S (.xt (.c t27_13) 1) [] H fun t29_15 H => run S (.lenS (.c (e8 0))) [] H fun t31_16 H => run S (.call 139 [(.c (.int .i64 2)), (.c t31_16)]) [] H fun t32_17
  H => run S (.call 140 [(.c t32_17), (.c t21_10)]) [] H fun t34_18 H => run S (.call 91 [(.c t34_18), (.c t28_14)]) [] H fun t36_19 H => run S (.call 92 [(.c t36_19)])
  [] H fun t37_20 H => R (tup [t37_20, t29_15]) H) (fn [(.t 2), (.t 3)] R)) fun Q7 => cnd t17_6 (fun Q21 => Q21 .ret (upd (upd (upd (upd (upd (upd (upd (upd (upd (upd
  (upd (upd (upd (upd (upd (Env.get [a0]) 2 (.string (bs []))) 3 (.bool false)) 10 a0) 11 t11_1) 12 t12_2) 13 t13_3) 9 t13_3) 14 t14_4) 15 t15_5) 4 t14_4) 5 t15_5) 16
  t15_5) 17 t17_6) 2 (.string (bs []))) 3 (.bool false)) H) (fun Q22 => Q22 .normal (upd (upd (upd (upd (upd (upd (upd (upd (upd (upd (upd (upd (upd (Env.get [a0]) 2
  (.string (bs []))) 3 (.bool false)) 10 a0) 11 t11_1) 12 t12_2) 13 t13_3) 9 t13_3) 14 t14_4) 15 t15_5) 4 t14_4) 5 t15_5) 16 t15_5) 17 t17_6) H) Q7
theorem h141 (S : Sys) (a0 : Value) (H : Heap) (R : Kv) : wpC S k141.body (Env.get [a0]) H (fn [(.t 2), (.t 3)] R) = s141 S a0 H R := by kernel_rfl
theorem w141 {S : Sys} (hR : S.R 141 = none) (hF : S.F 141 = some k141) (a0 : Value) {H : Heap} {R : Kv} (h : s141 S a0 H R) : Wf S 141 [a0] H R := Wf_sh hR hF ((h141 S
  a0 H R).mpr h)
def s142 (S : Sys) (a0 a1 : Value) (H : Heap) (R : Kv) : Prop := run S (.call 167 [(.c a0)]) [] H fun t7_1 H => run S (.call 111 [(.c a0)]) [] H fun t9_2 H => gd t9_2
  false (run S (.mv (.c a1)) [] H) H fun t11_3 H => gd t9_2 false (run S (.bin .lss (.c t11_3) (.c (.int .i64 0))) [] H) H fun t12_4 H => run S (.pick (.c t9_2) (.c
  (.bool true)) (.c t12_4)) [] H fun t13_5 H => gd t13_5 false (run S (.mv (.c t7_1)) [] H) H fun t15_6 H => gd t13_5 false (run S (.mv (.c a1)) [] H) H fun t16_7 H =>
  gd t13_5 false (run S (.cvt .u64 (.c t16_7)) [] H) H fun t17_8 H => gd t13_5 false (run S (.bin .gtr (.c t15_6) (.c t17_8)) [] H) H fun t18_9 H => run S (.pick (.c
  t13_5) (.c (.bool true)) (.c t18_9)) [] H fun t19_10 H => jn (sq (fun e12 H => run S (.cvt .i64 (.c (e12 5))) [] H fun t23_13 H => R t23_13 H) (fn [(.t 4)] R)) fun Q11
  => cnd t19_10 (fun Q14 => run S (.call 151 [(.c a0)]) [] H fun t21_16 H => Q14 .ret (upd (upd (upd (upd (upd (upd (upd (upd (upd (upd (upd (upd (upd (upd (upd (upd
  (upd (upd (upd (Env.get [a0, a1]) 4 (.int .i64 0)) 6 a0) 7 t7_1) 5 t7_1) 8 a0) 9 t9_2) 10 t9_2) 11 t11_3) 12 t12_4) 13 t13_5) 14 t13_5) 15 t15_6) 16 t16_7) 17 t17_8)
  18 t18_9) 19 t19_10) 20 a0) 21 t21_16) 4 (.int .i64 0)) H) (fun Q15 => Q15 .normal (upd (upd (upd (upd (upd (upd (upd (upd (upd (upd (upd (upd (upd (upd (upd (upd
  (Env.get [a0, a1]) 4 (.int .i64 0)) 6 a0) 7 t7_1) 5 t7_1) 8 a0) 9 t9_2) 10 t9_2) 11 t11_3) 12 t12_4) 13 t13_5) 14 t13_5) 15 t15_6) 16 t16_7) 17 t17_8) 18 t18_9) 19
  t19_10) H) Q11
theorem h142 (S : Sys) (a0 a1 : Value) (H : Heap) (R : Kv) : wpC S k142.body (Env.get [a0, a1]) H (fn [(.t 4)] R) = s142 S a0 a1 H R := by kernel_rfl
theorem w142 {S : Sys} (hR : S.R 142 = none) (hF : S.F 142 = some k142) (a0 a1 : Value) {H : Heap} {R : Kv} (h : s142 S a0 a1 H R) : Wf S 142 [a0, a1] H R := Wf_sh hR hF
  ((h142 S a0 a1 H R).mpr h)
def b143_0 : KCode := (.seq (.seq (.reg [(.op (some 111) none (.call 170 [(.t 9)])), (.op (some 112) none (.mv (.t 7))), (.op (some 113) none (.bin .lss (.t 111) (.t
  112)))]) (.cond (.t 113) .skip (.exit 3))) (.block 4 (.seq (.reg [(.op (some 114) none (.mv (.t 7))), (.op (some 115) none (.call 170 [(.t 9)])), (.op (some 116) none
  (.bin .sub (.t 114) (.t 115))), (.op (some 117) none (.call 170 [(.t 9)])), (.op (some 118) none (.mv (.t 8))), (.op (some 119) none (.mn (.t 116) [(.t 117), (.t
  118)])), (.op (some 10) none (.mv (.t 119)))]) (.reg [(.op (some 120) none (.call 161 [(.t 9)])), (.op (some 121) none (.mv (.t 10))), (.op (some 122) none (.slS (.t
  120) none (some (.t 121)))), (.op (some 123) none (.call 160 [(.t 9), (.t 122)]))]))))
def s143_0 (S : Sys) (e : Fe) (H : Heap) (Q : Kx) : Prop := run S (.call 170 [(.c (e 9))]) [] H fun t111_115 H => run S (.bin .lss (.c t111_115) (.c (e 7))) [] H fun
  t113_116 H => jn (sq (fun e118 H => run S (.call 170 [(.c (e118 9))]) [] H fun t115_119 H => run S (.bin .sub (.c (e118 7)) (.c t115_119)) [] H fun t116_120 H => run S
  (.call 170 [(.c (e118 9))]) [] H fun t117_121 H => run S (.mn (.c t116_120) [(.c t117_121), (.c (e118 8))]) [] H fun t119_122 H => run S (.call 161 [(.c (e118 9))]) []
  H fun t120_123 H => run S (.slS (.c t120_123) none (some (.c t119_122))) [] H fun t122_124 H => run S (.call 160 [(.c (e118 9)), (.c t122_124)]) [] H fun t123_125 H =>
  Q .normal (upd (upd (upd (upd (upd (upd (upd (upd (upd (upd (upd e118 114 (e118 7)) 115 t115_119) 116 t116_120) 117 t117_121) 118 (e118 8)) 119 t119_122) 10 t119_122)
  120 t120_123) 121 t119_122) 122 t122_124) 123 t123_125) H) Q) fun Q117 => cnd t113_116 (fun Q126 => Q126 .normal (upd (upd (upd e 111 t111_115) 112 (e 7)) 113
  t113_116) H) (fun Q127 => Q127 (.exit 3) (upd (upd (upd e 111 t111_115) 112 (e 7)) 113 t113_116) H) Q117
theorem h143_0 (S : Sys) (e : Fe) (H : Heap) (Q : Kx) : wpC S b143_0 e H Q = s143_0 S e H Q := by kernel_rfl
theorem l143_0 (S : Sys) {Q : Kx} (I : Nat → Fe → Heap → Prop) (d : Nat) {e0 : Fe} {H : Heap} (h0 : I d e0 H) (hr : ∀ (d : Nat) (e : Fe) (H : Heap), I d e H → s143_0 S e
  H (sq (fun e' H' => ∃ d', d' < d ∧ I d' e' H') Q)) : WL S b143_0 e0 H Q := WL_inv I d h0 fun d e H hi => (h143_0 S e H _).mpr (hr d e H hi)
theorem u143_0 (S : Sys) {Q : Kx} {e : Fe} {H : Heap} (h : s143_0 S e H (sq (fun e' H' => WL S b143_0 e' H' Q) Q)) : WL S b143_0 e H Q := WL_once ((h143_0 S e H _).mpr h)
def s143 (S : Sys) (a0 a1 : Value) (H : Heap) (R : Kv) : Prop := jn (sq (fun e2 H => run S (.bin .lss (.c (e2 1)) (.c (.int .i64 0))) [] H fun t18_3 H => jn (sq (fun e5
  H => run S (.lenS (.c (e5 0))) [] H fun t22_6 H => run S (.cvt .u64 (.c t22_6)) [] H fun t23_7 H => run S (.cvt .u64 (.c (e5 1))) [] H fun t25_8 H => run S (.call 168
  [(.c t23_7), (.c t25_8)]) [] H fun t26_9 H => run S (.xt (.c t26_9) 0) [] H fun t27_10 H => run S (.xt (.c t26_9) 1) [] H fun t28_11 H => run S (.bin .gtr (.c t27_10)
  (.c (.int .u64 0))) [] H fun t30_12 H => gd t30_12 false (run S (.mv (.c t28_11)) [] H) H fun t32_13 H => gd t30_12 false (run S (.bin .gtr (.c t32_13) (.c (.int .u64
  9223372036854775807))) [] H) H fun t33_14 H => run S (.pick (.c t30_12) (.c (.bool true)) (.c t33_14)) [] H fun t34_15 H => jn (sq (fun e17 H => run S (.cvt .i64 (.c
  (e17 6))) [] H fun t37_18 H => run S (.lenS (.c (e17 0))) [] H fun t39_19 H => run S (.bin .eql (.c t39_19) (.c (.int .i64 0))) [] H fun t40_20 H => jn (sq (fun e22 H
  => run S (.idS (.c (e22 0)) (.c (.int .i64 0))) [] H fun t42_23 H => jn (sq (fun e25 H => run S (.bin .gtr (.c (e25 7)) (.c (.int .i64 8192))) [] H fun t96_26 H => jn
  (sq (fun e28 H => run S (.alloc 195 [(.pointer none), (.slice none 0 0)]) [] H fun t9_29 H => run S (.call 159 [(.c t9_29), (.c (e28 7))]) [] H fun t108_30 H => run S
  (.call 160 [(.c t9_29), (.c (e28 0))]) [] H fun t110_31 H => jn (sq (fun e33 H => run S (.call 161 [(.c (e33 9))]) [] H fun t124_34 H => R t124_34 H) (fn [(.t 4)] R))
  fun Q32 => jn (blk 3 Q32) fun Q35 => WL S b143_0 (upd (upd (upd (upd (upd e28 9 t9_29) 107 (e28 7)) 108 t108_30) 109 (e28 0)) 110 t110_31) H Q35) (fn [(.t 4)] R)) fun
  Q27 => cnd t96_26 (fun Q36 => run S (.lenS (.c (e25 0))) [] H fun t98_38 H => run S (.bin .quo (.c (.int .i64 8192)) (.c t98_38)) [] H fun t99_39 H => run S (.lenS (.c
  (e25 0))) [] H fun t101_40 H => run S (.bin .mul (.c t99_39) (.c t101_40)) [] H fun t102_41 H => run S (.bin .eql (.c t102_41) (.c (.int .i64 0))) [] H fun t104_42 H
  => cnd t104_42 (fun Q43 => run S (.lenS (.c (e25 0))) [] H fun t106_45 H => Q43 .normal (upd (upd (upd (upd (upd (upd (upd (upd (upd (upd (upd (upd (upd (upd (upd (upd
  e25 94 (e25 7)) 8 (e25 7)) 95 (e25 7)) 96 t96_26) 97 (e25 0)) 98 t98_38) 99 t99_39) 100 (e25 0)) 101 t101_40) 102 t102_41) 8 t102_41) 103 t102_41) 104 t104_42) 105
  (e25 0)) 106 t106_45) 8 t106_45) H) (fun Q44 => Q44 .normal (upd (upd (upd (upd (upd (upd (upd (upd (upd (upd (upd (upd (upd e25 94 (e25 7)) 8 (e25 7)) 95 (e25 7)) 96
  t96_26) 97 (e25 0)) 98 t98_38) 99 t99_39) 100 (e25 0)) 101 t101_40) 102 t102_41) 8 t102_41) 103 t102_41) 104 t104_42) H) Q36) (fun Q37 => Q37 .normal (upd (upd (upd
  (upd e25 94 (e25 7)) 8 (e25 7)) 95 (e25 7)) 96 t96_26) H) Q27) (fn [(.t 4)] R)) fun Q24 => run S (.bin .eql (.c t42_23) (.c (.int .u8 32))) [] H fun t44_46 H => jn
  (blk 1 Q24) fun Q47 => jn (sq (fun e49 H => cnd (e49 43) (fun Q50 => run S (.bin .leq (.c (e49 7)) (.c (.int .i64 128))) [] H fun t51_52 H => gd t51_52 true (run S
  (.mv (.c (e49 0))) [] H) H fun t53_53 H => gd t51_52 true (run S (.call 169 [(.c (.string (bs [32, 32, 32, 32, 32, 32, 32, 32, 32, 32, 32, 32, 32, 32, 32, 32, 32, 32,
  32, 32, 32, 32, 32, 32, 32, 32, 32, 32, 32, 32, 32, 32, 32, 32, 32, 32, 32, 32, 32, 32, 32, 32, 32, 32, 32, 32, 32, 32, 32, 32, 32, 32, 32, 32, 32, 32, 32, 32, 32, 32,
  32, 32, 32, 32, 32, 32, 32, 32, 32, 32, 32, 32, 32, 32, 32, 32, 32, 32, 32, 32, 32, 32, 32, 32, 32, 32, 32, 32, 32, 32, 32, 32, 32, 32, 32, 32, 32, 32, 32, 32, 32, 32,
  32, 32, 32, 32, 32, 32, 32, 32, 32, 32, 32, 32, 32, 32, 32, 32, 32, 32, 32, 32, 32, 32, 32, 32, 32, 32]))), (.c t53_53)]) [] H) H fun t54_54 H => run S (.pick (.c
  t51_52) (.c t54_54) (.c (.bool false))) [] H fun t55_55 H => jn (blk 2 Q50) fun Q56 => cnd t55_55 (fun Q57 => run S (.slS (.c (.string (bs [32, 32, 32, 32, 32, 32, 32,
  32, 32, 32, 32, 32, 32, 32, 32, 32, 32, 32, 32, 32, 32, 32, 32, 32, 32, 32, 32, 32, 32, 32, 32, 32, 32, 32, 32, 32, 32, 32, 32, 32, 32, 32, 32, 32, 32, 32, 32, 32, 32,
  32, 32, 32, 32, 32, 32, 32, 32, 32, 32, 32, 32, 32, 32, 32, 32, 32, 32, 32, 32, 32, 32, 32, 32, 32, 32, 32, 32, 32, 32, 32, 32, 32, 32, 32, 32, 32, 32, 32, 32, 32, 32,
  32, 32, 32, 32, 32, 32, 32, 32, 32, 32, 32, 32, 32, 32, 32, 32, 32, 32, 32, 32, 32, 32, 32, 32, 32, 32, 32, 32, 32, 32, 32, 32, 32, 32, 32, 32, 32]))) none (some (.c
  (e49 7)))) [] H fun t57_59 H => Q57 .ret (upd (upd (upd (upd (upd (upd (upd (upd (upd (upd e49 50 (e49 7)) 51 t51_52) 52 t51_52) 53 t53_53) 54 t54_54) 55 t55_55) 49
  t55_55) 56 (e49 7)) 57 t57_59) 4 t57_59) H) (fun Q58 => run S (.bin .leq (.c (e49 7)) (.c (.int .i64 128))) [] H fun t60_60 H => gd t60_60 true (run S (.mv (.c (e49
  0))) [] H) H fun t62_61 H => gd t60_60 true (run S (.call 169 [(.c (.string (bs [45, 45, 45, 45, 45, 45, 45, 45, 45, 45, 45, 45, 45, 45, 45, 45, 45, 45, 45, 45, 45,
  45, 45, 45, 45, 45, 45, 45, 45, 45, 45, 45, 45, 45, 45, 45, 45, 45, 45, 45, 45, 45, 45, 45, 45, 45, 45, 45, 45, 45, 45, 45, 45, 45, 45, 45, 45, 45, 45, 45, 45, 45, 45,
  45, 45, 45, 45, 45, 45, 45, 45, 45, 45, 45, 45, 45, 45, 45, 45, 45, 45, 45, 45, 45, 45, 45, 45, 45, 45, 45, 45, 45, 45, 45, 45, 45, 45, 45, 45, 45, 45, 45, 45, 45, 45,
  45, 45, 45, 45, 45, 45, 45, 45, 45, 45, 45, 45, 45, 45, 45, 45, 45, 45, 45, 45, 45, 45, 45]))), (.c t62_61)]) [] H) H fun t63_62 H => run S (.pick (.c t60_60) (.c
  t63_62) (.c (.bool false))) [] H fun t64_63 H => cnd t64_63 (fun Q64 => run S (.slS (.c (.string (bs [45, 45, 45, 45, 45, 45, 45, 45, 45, 45, 45, 45, 45, 45, 45, 45,
  45, 45, 45, 45, 45, 45, 45, 45, 45, 45, 45, 45, 45, 45, 45, 45, 45, 45, 45, 45, 45, 45, 45, 45, 45, 45, 45, 45, 45, 45, 45, 45, 45, 45, 45, 45, 45, 45, 45, 45, 45, 45,
  45, 45, 45, 45, 45, 45, 45, 45, 45, 45, 45, 45, 45, 45, 45, 45, 45, 45, 45, 45, 45, 45, 45, 45, 45, 45, 45, 45, 45, 45, 45, 45, 45, 45, 45, 45, 45, 45, 45, 45, 45, 45,
  45, 45, 45, 45, 45, 45, 45, 45, 45, 45, 45, 45, 45, 45, 45, 45, 45, 45, 45, 45, 45, 45, 45, 45, 45, 45, 45, 45]))) none (some (.c (e49 7)))) [] H fun t66_66 H => Q64
  .ret (upd (upd (upd (upd (upd (upd (upd (upd (upd (upd (upd (upd (upd (upd (upd (upd (upd e49 50 (e49 7)) 51 t51_52) 52 t51_52) 53 t53_53) 54 t54_54) 55 t55_55) 49
  t55_55) 59 (e49 7)) 60 t60_60) 61 t60_60) 62 t62_61) 63 t63_62) 64 t64_63) 58 t64_63) 65 (e49 7)) 66 t66_66) 4 t66_66) H) (fun Q65 => run S (.bin .leq (.c (e49 7)) (.c
  (.int .i64 64))) [] H fun t69_67 H => gd t69_67 true (run S (.mv (.c (e49 0))) [] H) H fun t71_68 H => gd t69_67 true (run S (.call 169 [(.c (.string (bs [48, 48, 48,
  48, 48, 48, 48, 48, 48, 48, 48, 48, 48, 48, 48, 48, 48, 48, 48, 48, 48, 48, 48, 48, 48, 48, 48, 48, 48, 48, 48, 48, 48, 48, 48, 48, 48, 48, 48, 48, 48, 48, 48, 48, 48,
  48, 48, 48, 48, 48, 48, 48, 48, 48, 48, 48, 48, 48, 48, 48, 48, 48, 48, 48]))), (.c t71_68)]) [] H) H fun t72_69 H => run S (.pick (.c t69_67) (.c t72_69) (.c (.bool
  false))) [] H fun t73_70 H => cnd t73_70 (fun Q71 => run S (.slS (.c (.string (bs [48, 48, 48, 48, 48, 48, 48, 48, 48, 48, 48, 48, 48, 48, 48, 48, 48, 48, 48, 48, 48,
  48, 48, 48, 48, 48, 48, 48, 48, 48, 48, 48, 48, 48, 48, 48, 48, 48, 48, 48, 48, 48, 48, 48, 48, 48, 48, 48, 48, 48, 48, 48, 48, 48, 48, 48, 48, 48, 48, 48, 48, 48, 48,
  48]))) none (some (.c (e49 7)))) [] H fun t75_73 H => Q71 .ret (upd (upd (upd (upd (upd (upd (upd (upd (upd (upd (upd (upd (upd (upd (upd (upd (upd (upd (upd (upd (upd
  (upd (upd (upd e49 50 (e49 7)) 51 t51_52) 52 t51_52) 53 t53_53) 54 t54_54) 55 t55_55) 49 t55_55) 59 (e49 7)) 60 t60_60) 61 t60_60) 62 t62_61) 63 t63_62) 64 t64_63) 58
  t64_63) 68 (e49 7)) 69 t69_67) 70 t69_67) 71 t71_68) 72 t72_69) 73 t73_70) 67 t73_70) 74 (e49 7)) 75 t75_73) 4 t75_73) H) (fun Q72 => run S (.bin .leq (.c (e49 7)) (.c
  (.int .i64 128))) [] H fun t78_74 H => gd t78_74 true (run S (.mv (.c (e49 0))) [] H) H fun t80_75 H => gd t78_74 true (run S (.call 169 [(.c (.string (bs [61, 61, 61,
  61, 61, 61, 61, 61, 61, 61, 61, 61, 61, 61, 61, 61, 61, 61, 61, 61, 61, 61, 61, 61, 61, 61, 61, 61, 61, 61, 61, 61, 61, 61, 61, 61, 61, 61, 61, 61, 61, 61, 61, 61, 61,
  61, 61, 61, 61, 61, 61, 61, 61, 61, 61, 61, 61, 61, 61, 61, 61, 61, 61, 61, 61, 61, 61, 61, 61, 61, 61, 61, 61, 61, 61, 61, 61, 61, 61, 61, 61, 61, 61, 61, 61, 61, 61,
  61, 61, 61, 61, 61, 61, 61, 61, 61, 61, 61, 61, 61, 61, 61, 61, 61, 61, 61, 61, 61, 61, 61, 61, 61, 61, 61, 61, 61, 61, 61, 61, 61, 61, 61, 61, 61, 61, 61, 61, 61]))),
  (.c t80_75)]) [] H) H fun t81_76 H => run S (.pick (.c t78_74) (.c t81_76) (.c (.bool false))) [] H fun t82_77 H => cnd t82_77 (fun Q78 => run S (.slS (.c (.string (bs
  [61, 61, 61, 61, 61, 61, 61, 61, 61, 61, 61, 61, 61, 61, 61, 61, 61, 61, 61, 61, 61, 61, 61, 61, 61, 61, 61, 61, 61, 61, 61, 61, 61, 61, 61, 61, 61, 61, 61, 61, 61,
  61, 61, 61, 61, 61, 61, 61, 61, 61, 61, 61, 61, 61, 61, 61, 61, 61, 61, 61, 61, 61, 61, 61, 61, 61, 61, 61, 61, 61, 61, 61, 61, 61, 61, 61, 61, 61, 61, 61, 61, 61, 61,
  61, 61, 61, 61, 61, 61, 61, 61, 61, 61, 61, 61, 61, 61, 61, 61, 61, 61, 61, 61, 61, 61, 61, 61, 61, 61, 61, 61, 61, 61, 61, 61, 61, 61, 61, 61, 61, 61, 61, 61, 61, 61,
  61, 61, 61]))) none (some (.c (e49 7)))) [] H fun t84_80 H => Q78 .ret (upd (upd (upd (upd (upd (upd (upd (upd (upd (upd (upd (upd (upd (upd (upd (upd (upd (upd (upd
  (upd (upd (upd (upd (upd (upd (upd (upd (upd (upd (upd (upd e49 50 (e49 7)) 51 t51_52) 52 t51_52) 53 t53_53) 54 t54_54) 55 t55_55) 49 t55_55) 59 (e49 7)) 60 t60_60) 61
  t60_60) 62 t62_61) 63 t63_62) 64 t64_63) 58 t64_63) 68 (e49 7)) 69 t69_67) 70 t69_67) 71 t71_68) 72 t72_69) 73 t73_70) 67 t73_70) 77 (e49 7)) 78 t78_74) 79 t78_74) 80
  t80_75) 81 t81_76) 82 t82_77) 76 t82_77) 83 (e49 7)) 84 t84_80) 4 t84_80) H) (fun Q79 => run S (.bin .leq (.c (e49 7)) (.c (.int .i64 64))) [] H fun t87_81 H => gd
  t87_81 true (run S (.mv (.c (e49 0))) [] H) H fun t89_82 H => gd t87_81 true (run S (.call 169 [(.c (.string (bs [9, 9, 9, 9, 9, 9, 9, 9, 9, 9, 9, 9, 9, 9, 9, 9, 9, 9,
  9, 9, 9, 9, 9, 9, 9, 9, 9, 9, 9, 9, 9, 9, 9, 9, 9, 9, 9, 9, 9, 9, 9, 9, 9, 9, 9, 9, 9, 9, 9, 9, 9, 9, 9, 9, 9, 9, 9, 9, 9, 9, 9, 9, 9, 9]))), (.c t89_82)]) [] H) H fun
  t90_83 H => run S (.pick (.c t87_81) (.c t90_83) (.c (.bool false))) [] H fun t91_84 H => cnd t91_84 (fun Q85 => run S (.slS (.c (.string (bs [9, 9, 9, 9, 9, 9, 9, 9,
  9, 9, 9, 9, 9, 9, 9, 9, 9, 9, 9, 9, 9, 9, 9, 9, 9, 9, 9, 9, 9, 9, 9, 9, 9, 9, 9, 9, 9, 9, 9, 9, 9, 9, 9, 9, 9, 9, 9, 9, 9, 9, 9, 9, 9, 9, 9, 9, 9, 9, 9, 9, 9, 9, 9,
  9]))) none (some (.c (e49 7)))) [] H fun t93_87 H => Q85 .ret (upd (upd (upd (upd (upd (upd (upd (upd (upd (upd (upd (upd (upd (upd (upd (upd (upd (upd (upd (upd (upd
  (upd (upd (upd (upd (upd (upd (upd (upd (upd (upd (upd (upd (upd (upd (upd (upd (upd e49 50 (e49 7)) 51 t51_52) 52 t51_52) 53 t53_53) 54 t54_54) 55 t55_55) 49 t55_55)
  59 (e49 7)) 60 t60_60) 61 t60_60) 62 t62_61) 63 t63_62) 64 t64_63) 58 t64_63) 68 (e49 7)) 69 t69_67) 70 t69_67) 71 t71_68) 72 t72_69) 73 t73_70) 67 t73_70) 77 (e49 7))
  78 t78_74) 79 t78_74) 80 t80_75) 81 t81_76) 82 t82_77) 76 t82_77) 86 (e49 7)) 87 t87_81) 88 t87_81) 89 t89_82) 90 t90_83) 91 t91_84) 85 t91_84) 92 (e49 7)) 93 t93_87)
  4 t93_87) H) (fun Q86 => Q86 .normal (upd (upd (upd (upd (upd (upd (upd (upd (upd (upd (upd (upd (upd (upd (upd (upd (upd (upd (upd (upd (upd (upd (upd (upd (upd (upd
  (upd (upd (upd (upd (upd (upd (upd (upd (upd e49 50 (e49 7)) 51 t51_52) 52 t51_52) 53 t53_53) 54 t54_54) 55 t55_55) 49 t55_55) 59 (e49 7)) 60 t60_60) 61 t60_60) 62
  t62_61) 63 t63_62) 64 t64_63) 58 t64_63) 68 (e49 7)) 69 t69_67) 70 t69_67) 71 t71_68) 72 t72_69) 73 t73_70) 67 t73_70) 77 (e49 7)) 78 t78_74) 79 t78_74) 80 t80_75) 81
  t81_76) 82 t82_77) 76 t82_77) 86 (e49 7)) 87 t87_81) 88 t87_81) 89 t89_82) 90 t90_83) 91 t91_84) 85 t91_84) H) Q79) Q72) Q65) Q58) Q56) (fun Q51 => Q51 .normal e49 H)
  Q47) Q47) fun Q48 => cnd t44_46 (fun Q88 => Q88 .normal (upd (upd (upd (upd e22 41 (e22 0)) 42 t42_23) 44 t44_46) 43 t44_46) H) (fun Q89 => run S (.bin .eql (.c
  t42_23) (.c (.int .u8 45))) [] H fun t45_90 H => cnd t45_90 (fun Q91 => Q91 .normal (upd (upd (upd (upd (upd (upd e22 41 (e22 0)) 42 t42_23) 44 t44_46) 43 t44_46) 45
  t45_90) 43 t45_90) H) (fun Q92 => run S (.bin .eql (.c t42_23) (.c (.int .u8 48))) [] H fun t46_93 H => cnd t46_93 (fun Q94 => Q94 .normal (upd (upd (upd (upd (upd
  (upd (upd (upd e22 41 (e22 0)) 42 t42_23) 44 t44_46) 43 t44_46) 45 t45_90) 43 t45_90) 46 t46_93) 43 t46_93) H) (fun Q95 => run S (.bin .eql (.c t42_23) (.c (.int .u8
  61))) [] H fun t47_96 H => cnd t47_96 (fun Q97 => Q97 .normal (upd (upd (upd (upd (upd (upd (upd (upd (upd (upd e22 41 (e22 0)) 42 t42_23) 44 t44_46) 43 t44_46) 45
  t45_90) 43 t45_90) 46 t46_93) 43 t46_93) 47 t47_96) 43 t47_96) H) (fun Q98 => run S (.bin .eql (.c t42_23) (.c (.int .u8 9))) [] H fun t48_99 H => Q98 .normal (upd
  (upd (upd (upd (upd (upd (upd (upd (upd (upd (upd (upd e22 41 (e22 0)) 42 t42_23) 44 t44_46) 43 t44_46) 45 t45_90) 43 t45_90) 46 t46_93) 43 t46_93) 47 t47_96) 43
  t47_96) 48 t48_99) 43 t48_99) H) Q95) Q92) Q89) Q48) (fn [(.t 4)] R)) fun Q21 => cnd t40_20 (fun Q100 => Q100 .ret (upd (upd (upd (upd (upd (upd (upd e17 36 (e17 6))
  37 t37_18) 7 t37_18) 38 (e17 0)) 39 t39_19) 40 t40_20) 4 (.string (bs []))) H) (fun Q101 => Q101 .normal (upd (upd (upd (upd (upd (upd e17 36 (e17 6)) 37 t37_18) 7
  t37_18) 38 (e17 0)) 39 t39_19) 40 t40_20) H) Q21) (fn [(.t 4)] R)) fun Q16 => cnd t34_15 (fun Q102 => run S (.mki 9 (.c (.string (bs [115, 116, 114, 105, 110, 103,
  115, 58, 32, 82, 101, 112, 101, 97, 116, 32, 111, 117, 116, 112, 117, 116, 32, 108, 101, 110, 103, 116, 104, 32, 111, 118, 101, 114, 102, 108, 111, 119])))) [] H fun
  t35_104 H => run S .nev [] H fun _ H => Q102 .normal (upd (upd (upd (upd (upd (upd (upd (upd (upd (upd (upd (upd (upd (upd (upd (upd (upd (upd e5 21 (e5 0)) 22 t22_6)
  23 t23_7) 24 (e5 1)) 25 t25_8) 26 t26_9) 20 t26_9) 27 t27_10) 28 t28_11) 5 t27_10) 6 t28_11) 29 t27_10) 30 t30_12) 31 t30_12) 32 t32_13) 33 t33_14) 34 t34_15) 35
  t35_104) H) (fun Q103 => Q103 .normal (upd (upd (upd (upd (upd (upd (upd (upd (upd (upd (upd (upd (upd (upd (upd (upd (upd e5 21 (e5 0)) 22 t22_6) 23 t23_7) 24 (e5 1))
  25 t25_8) 26 t26_9) 20 t26_9) 27 t27_10) 28 t28_11) 5 t27_10) 6 t28_11) 29 t27_10) 30 t30_12) 31 t30_12) 32 t32_13) 33 t33_14) 34 t34_15) H) Q16) (fn [(.t 4)] R)) fun
  Q4 => cnd t18_3 (fun Q105 => run S (.mki 9 (.c (.string (bs [115, 116, 114, 105, 110, 103, 115, 58, 32, 110, 101, 103, 97, 116, 105, 118, 101, 32, 82, 101, 112, 101,
  97, 116, 32, 99, 111, 117, 110, 116])))) [] H fun t19_107 H => run S .nev [] H fun _ H => Q105 .normal (upd (upd (upd e2 17 (e2 1)) 18 t18_3) 19 t19_107) H) (fun Q106
  => Q106 .normal (upd (upd e2 17 (e2 1)) 18 t18_3) H) Q4) (fn [(.t 4)] R)) fun Q1 => run S (.bin .eql (.c a1) (.c (.int .i64 0))) [] H fun t13_108 H => jn (blk 0 Q1)
  fun Q109 => cnd t13_108 (fun Q110 => Q110 .ret (upd (upd (upd (upd (upd (Env.get [a0, a1]) 4 (.string (bs []))) 11 a1) 13 t13_108) 12 t13_108) 4 (.string (bs []))) H)
  (fun Q111 => run S (.bin .eql (.c a1) (.c (.int .i64 1))) [] H fun t15_112 H => cnd t15_112 (fun Q113 => Q113 .ret (upd (upd (upd (upd (upd (upd (upd (upd (Env.get
  [a0, a1]) 4 (.string (bs []))) 11 a1) 13 t13_108) 12 t13_108) 15 t15_112) 14 t15_112) 16 a0) 4 a0) H) (fun Q114 => Q114 .normal (upd (upd (upd (upd (upd (upd (Env.get
  [a0, a1]) 4 (.string (bs []))) 11 a1) 13 t13_108) 12 t13_108) 15 t15_112) 14 t15_112) H) Q111) Q109
theorem h143 (S : Sys) (a0 a1 : Value) (H : Heap) (R : Kv) : wpC S k143.body (Env.get [a0, a1]) H (fn [(.t 4)] R) = s143 S a0 a1 H R := by kernel_rfl
theorem w143 {S : Sys} (hR : S.R 143 = none) (hF : S.F 143 = some k143) (a0 a1 : Value) {H : Heap} {R : Kv} (h : s143 S a0 a1 H R) : Wf S 143 [a0, a1] H R := Wf_sh hR hF
  ((h143 S a0 a1 H R).mpr h)
def s144 (S : Sys) (a0 a1 : Value) (H : Heap) (R : Kv) : Prop := run S (.call 39 [(.c a0)]) [] H fun t12_1 H => run S (.xt (.c t12_1) 0) [] H fun t13_2 H => run S (.xt
  (.c t12_1) 1) [] H fun t14_3 H => run S (.un .not (.c t14_3)) [] H fun t16_4 H => jn (sq (fun e6 H => run S (.call 148 [(.c (e6 0)), (.c (.int .i64 1048576))]) [] H
  fun t18_7 H => run S (.call 111 [(.c (e6 0))]) [] H fun t20_8 H => jn (sq (fun e10 H => run S (.call 33 [(.c (e10 6)), (.c (e10 8)), (.c (e10 1))]) [] H fun t25_11 H
  => run S (.xt (.c t25_11) 0) [] H fun t26_12 H => run S (.xt (.c t25_11) 1) [] H fun t27_13 H => run S (.b2s 5 (.c t26_12)) [] H fun t29_14 H => R (tup [t29_14,
  t27_13]) H) (fn [(.t 4), (.t 5)] R)) fun Q9 => cnd t20_8 (fun Q15 => Q15 .ret (upd (upd (upd (upd (upd (upd (upd e6 17 (e6 0)) 18 t18_7) 8 t18_7) 19 (e6 0)) 20 t20_8)
  4 (.string (bs []))) 5 (.bool false)) H) (fun Q16 => Q16 .normal (upd (upd (upd (upd (upd e6 17 (e6 0)) 18 t18_7) 8 t18_7) 19 (e6 0)) 20 t20_8) H) Q9) (fn [(.t 4), (.t
  5)] R)) fun Q5 => cnd t16_4 (fun Q17 => Q17 .ret (upd (upd (upd (upd (upd (upd (upd (upd (upd (upd (upd (upd (upd (Env.get [a0, a1]) 4 (.string (bs []))) 5 (.bool
  false)) 11 a0) 12 t12_1) 10 t12_1) 13 t13_2) 14 t14_3) 6 t13_2) 7 t14_3) 15 t14_3) 16 t16_4) 4 (.string (bs []))) 5 (.bool false)) H) (fun Q18 => Q18 .normal (upd (upd
  (upd (upd (upd (upd (upd (upd (upd (upd (upd (Env.get [a0, a1]) 4 (.string (bs []))) 5 (.bool false)) 11 a0) 12 t12_1) 10 t12_1) 13 t13_2) 14 t14_3) 6 t13_2) 7 t14_3)
  15 t14_3) 16 t16_4) H) Q5
theorem h144 (S : Sys) (a0 a1 : Value) (H : Heap) (R : Kv) : wpC S k144.body (Env.get [a0, a1]) H (fn [(.t 4), (.t 5)] R) = s144 S a0 a1 H R := by kernel_rfl
theorem w144 {S : Sys} (hR : S.R 144 = none) (hF : S.F 144 = some k144) (a0 a1 : Value) {H : Heap} {R : Kv} (h : s144 S a0 a1 H R) : Wf S 144 [a0, a1] H R := Wf_sh hR hF
  ((h144 S a0 a1 H R).mpr h)
def s147 (S : Sys) (a0 : Value) (H : Heap) (R : Kv) : Prop := run S (.mx (.c a0) [(.c (.int .i64 0))]) [] H fun t4_1 H => run S (.mn (.c t4_1) [(.c (.int .i64 8))]) [] H
  fun t5_2 H => R t5_2 H
theorem h147 (S : Sys) (a0 : Value) (H : Heap) (R : Kv) : wpC S k147.body (Env.get [a0]) H (fn [(.t 2)] R) = s147 S a0 H R := by kernel_rfl
theorem w147 {S : Sys} (hR : S.R 147 = none) (hF : S.F 147 = some k147) (a0 : Value) {H : Heap} {R : Kv} (h : s147 S a0 H R) : Wf S 147 [a0] H R := Wf_sh hR hF ((h147 S
  a0 H R).mpr h)
def s148 (S : Sys) (a0 a1 : Value) (H : Heap) (R : Kv) : Prop := run S (.call 142 [(.c a0), (.c a1)]) [] H fun t8_1 H => run S (.call 110 [(.c a0), (.c t8_1)]) [] H fun
  t9_2 H => R t9_2 H
theorem h148 (S : Sys) (a0 a1 : Value) (H : Heap) (R : Kv) : wpC S k148.body (Env.get [a0, a1]) H (fn [(.t 4)] R) = s148 S a0 a1 H R := by kernel_rfl
theorem w148 {S : Sys} (hR : S.R 148 = none) (hF : S.F 148 = some k148) (a0 a1 : Value) {H : Heap} {R : Kv} (h : s148 S a0 a1 H R) : Wf S 148 [a0, a1] H R := Wf_sh hR hF
  ((h148 S a0 a1 H R).mpr h)
def s149 (S : Sys) (a0 : Value) (H : Heap) (R : Kv) : Prop := run S (.bin .geq (.c a0) (.c (.int .i64 0))) [] H fun t4_1 H => gd t4_1 true (run S (.mv (.c a0)) [] H) H
  fun t6_2 H => gd t4_1 true (run S (.bin .leq (.c t6_2) (.c (.int .i64 32))) [] H) H fun t7_3 H => run S (.pick (.c t4_1) (.c t7_3) (.c (.bool false))) [] H fun t8_4 H
  => R t8_4 H
theorem h149 (S : Sys) (a0 : Value) (H : Heap) (R : Kv) : wpC S k149.body (Env.get [a0]) H (fn [(.t 2)] R) = s149 S a0 H R := by kernel_rfl
theorem w149 {S : Sys} (hR : S.R 149 = none) (hF : S.F 149 = some k149) (a0 : Value) {H : Heap} {R : Kv} (h : s149 S a0 H R) : Wf S 149 [a0] H R := Wf_sh hR hF ((h149 S
  a0 H R).mpr h)
def b150_0 : KCode := (.seq (.seq (.reg [(.op (some 7) none (.mv (.t 6))), (.op (some 8) none (.mv (.t 1))), (.op (some 9) none (.bin .lss (.t 7) (.t 8)))]) (.cond (.t
  9) .skip (.exit 0))) (.seq (.block 1 (.reg [(.op (some 12) none (.mv (.t 5))), (.op (some 13) none (.mv (.t 0))), (.op (some 14) none (.mv (.t 6))), (.op (some 15)
  none (.bin .shr (.t 13) (.t 14))), (.op (some 16) none (.cvt .i64 (.t 15))), (.op (some 17) none (.bin .rem (.t 16) (.c (.int .i64 2)))), (.op (some 18) none (.bsl 3 1
  [(.int .i64 0)] [(0, (1, (.t 17)))])), (.op (some 19) none (.app 3 1 8 (.t 12) (.t 18))), (.op (some 5) none (.mv (.t 19)))])) (.reg [(.op (some 10) none (.mv (.t
  6))), (.op (some 11) none (.bin .add (.t 10) (.c (.int .i64 1)))), (.op (some 6) none (.mv (.t 11)))])))
def s150_0 (S : Sys) (e : Fe) (H : Heap) (Q : Kx) : Prop := run S (.bin .lss (.c (e 6)) (.c (e 1))) [] H fun t9_4 H => jn (sq (fun e6 H => jn (sq (fun e8 H => run S
  (.bin .add (.c (e8 6)) (.c (.int .i64 1))) [] H fun t11_9 H => Q .normal (upd (upd (upd e8 10 (e8 6)) 11 t11_9) 6 t11_9) H) Q) fun Q7 => run S (.bin .shr (.c (e6 0))
  (.c (e6 6))) [] H fun t15_10 H => run S (.cvt .i64 (.c t15_10)) [] H fun t16_11 H => run S (.bin .rem (.c t16_11) (.c (.int .i64 2))) [] H fun t17_12 H => run S (.bsl
  3 1 [(.int .i64 0)] [(0, (1, (.c t17_12)))]) [] H fun t18_13 H => run S (.app 3 1 8 (.c (e6 5)) (.c t18_13)) [] H fun t19_14 H => Q7 .normal (upd (upd (upd (upd (upd
  (upd (upd (upd (upd e6 12 (e6 5)) 13 (e6 0)) 14 (e6 6)) 15 t15_10) 16 t16_11) 17 t17_12) 18 t18_13) 19 t19_14) 5 t19_14) H) Q) fun Q5 => cnd t9_4 (fun Q15 => Q15
  .normal (upd (upd (upd e 7 (e 6)) 8 (e 1)) 9 t9_4) H) (fun Q16 => Q16 (.exit 0) (upd (upd (upd e 7 (e 6)) 8 (e 1)) 9 t9_4) H) Q5
theorem h150_0 (S : Sys) (e : Fe) (H : Heap) (Q : Kx) : wpC S b150_0 e H Q = s150_0 S e H Q := by kernel_rfl
theorem l150_0 (S : Sys) {Q : Kx} (I : Nat → Fe → Heap → Prop) (d : Nat) {e0 : Fe} {H : Heap} (h0 : I d e0 H) (hr : ∀ (d : Nat) (e : Fe) (H : Heap), I d e H → s150_0 S e
  H (sq (fun e' H' => ∃ d', d' < d ∧ I d' e' H') Q)) : WL S b150_0 e0 H Q := WL_inv I d h0 fun d e H hi => (h150_0 S e H _).mpr (hr d e H hi)
theorem u150_0 (S : Sys) {Q : Kx} {e : Fe} {H : Heap} (h : s150_0 S e H (sq (fun e' H' => WL S b150_0 e' H' Q) Q)) : WL S b150_0 e H Q := WL_once ((h150_0 S e H _).mpr h)
def s150 (S : Sys) (a0 a1 : Value) (H : Heap) (R : Kv) : Prop := jn (sq (fun e2 H => R (e2 5) H) (fn [(.t 4)] R)) fun Q1 => jn (blk 0 Q1) fun Q3 => WL S b150_0 (upd (upd
  (upd (Env.get [a0, a1]) 4 (.slice none 0 0)) 5 (.slice none 0 0)) 6 (.int .i64 0)) H Q3
theorem h150 (S : Sys) (a0 a1 : Value) (H : Heap) (R : Kv) : wpC S k150.body (Env.get [a0, a1]) H (fn [(.t 4)] R) = s150 S a0 a1 H R := by kernel_rfl
theorem w150 {S : Sys} (hR : S.R 150 = none) (hF : S.F 150 = some k150) (a0 a1 : Value) {H : Heap} {R : Kv} (h : s150 S a0 a1 H R) : Wf S 150 [a0, a1] H R := Wf_sh hR hF
  ((h150 S a0 a1 H R).mpr h)
def s151 (S : Sys) (a0 : Value) (H : Heap) (R : Kv) : Prop := run S (.eqv .ptr true (.c a0) (.c (.pointer none))) [] H fun t3_1 H => cnd t3_1 (fun Q2 => run S (.nck (.c
  a0)) [] H fun t6_4 H => run S (.fad 0 (.c t6_4)) [] H fun t7_5 H => run S (.st (.c t7_5) (.c (.string (bs [])))) [] H fun _ H => run S (.nck (.c a0)) [] H fun t8_6 H
  => run S (.fad 1 (.c t8_6)) [] H fun t9_7 H => run S (.st (.c t9_7) (.c (.bool true))) [] H fun _ H => Q2 .normal (upd (upd (upd (upd (upd (upd (upd (upd (Env.get
  [a0]) 2 a0) 3 t3_1) 4 a0) 5 a0) 6 t6_4) 7 t7_5) 8 t8_6) 9 t9_7) H) (fun Q3 => Q3 .normal (upd (upd (Env.get [a0]) 2 a0) 3 t3_1) H) (fn [] R)
theorem h151 (S : Sys) (a0 : Value) (H : Heap) (R : Kv) : wpC S k151.body (Env.get [a0]) H (fn [] R) = s151 S a0 H R := by kernel_rfl
theorem w151 {S : Sys} (hR : S.R 151 = none) (hF : S.F 151 = some k151) (a0 : Value) {H : Heap} {R : Kv} (h : s151 S a0 H R) : Wf S 151 [a0] H R := Wf_sh hR hF ((h151 S
  a0 H R).mpr h)
def s159 (S : Sys) (a0 a1 : Value) (H : Heap) (R : Kv) : Prop := run S (.call 175 [(.c a0)]) [] H fun t5_1 H => run S (.bin .lss (.c a1) (.c (.int .i64 0))) [] H fun
  t7_2 H => jn (sq (fun e4 H => run S (.nck (.c (e4 0))) [] H fun t10_5 H => run S (.fad 1 (.c t10_5)) [] H fun t11_6 H => run S (.ld (.c t11_6)) [] H fun t12_7 H => run
  S (.nck (.c (e4 0))) [] H fun t15_8 H => run S (.fad 1 (.c t15_8)) [] H fun t16_9 H => run S (.ld (.c t16_9)) [] H fun t17_10 H => run S (.lenL (.c t17_10)) [] H fun
  t18_11 H => run S .nev [] H fun t13_12 H => ck (kop (.ld (.c t16_9)) [] H) t17_10 (run S (.bin .sub (.c t13_12) (.c t18_11)) [] H fun t19_13 H => run S (.bin .lss (.c
  t19_13) (.c (e4 1))) [] H fun t21_14 H => cnd t21_14 (fun Q15 => run S (.call 176 [(.c (e4 0)), (.c (e4 1))]) [] H fun t24_17 H => Q15 .normal (upd (upd (upd (upd (upd
  (upd (upd (upd (upd (upd (upd (upd (upd (upd (upd (upd e4 9 (e4 0)) 10 t10_5) 11 t11_6) 12 t12_7) 14 (e4 0)) 15 t15_8) 16 t16_9) 17 t17_10) 18 t18_11) 20 (e4 1)) 13
  t13_12) 19 t19_13) 21 t21_14) 22 (e4 0)) 23 (e4 1)) 24 t24_17) H) (fun Q16 => Q16 .normal (upd (upd (upd (upd (upd (upd (upd (upd (upd (upd (upd (upd (upd e4 9 (e4 0))
  10 t10_5) 11 t11_6) 12 t12_7) 14 (e4 0)) 15 t15_8) 16 t16_9) 17 t17_10) 18 t18_11) 20 (e4 1)) 13 t13_12) 19 t19_13) 21 t21_14) H) (fn [] R))) (fn [] R)) fun Q3 => cnd
  t7_2 (fun Q18 => run S (.mki 9 (.c (.string (bs [115, 116, 114, 105, 110, 103, 115, 46, 66, 117, 105, 108, 100, 101, 114, 46, 71, 114, 111, 119, 58, 32, 110, 101, 103,
  97, 116, 105, 118, 101, 32, 99, 111, 117, 110, 116])))) [] H fun t8_20 H => run S .nev [] H fun _ H => Q18 .normal (upd (upd (upd (upd (upd (Env.get [a0, a1]) 4 a0) 5
  t5_1) 6 a1) 7 t7_2) 8 t8_20) H) (fun Q19 => Q19 .normal (upd (upd (upd (upd (Env.get [a0, a1]) 4 a0) 5 t5_1) 6 a1) 7 t7_2) H) Q3
theorem h159 (S : Sys) (a0 a1 : Value) (H : Heap) (R : Kv) : wpC S k159.body (Env.get [a0, a1]) H (fn [] R) = s159 S a0 a1 H R := by kernel_rfl
theorem w159 {S : Sys} (hR : S.R 159 = none) (hF : S.F 159 = some k159) (a0 a1 : Value) {H : Heap} {R : Kv} (h : s159 S a0 a1 H R) : Wf S 159 [a0, a1] H R := Wf_sh hR hF
  ((h159 S a0 a1 H R).mpr h)
def s160 (S : Sys) (a0 a1 : Value) (H : Heap) (R : Kv) : Prop := run S (.call 175 [(.c a0)]) [] H fun t7_1 H => run S (.nck (.c a0)) [] H fun t10_2 H => run S (.fad 1
  (.c t10_2)) [] H fun t11_3 H => run S (.ld (.c t11_3)) [] H fun t12_4 H => run S (.appS 5 (.c t12_4) (.c a1)) [] H fun t14_5 H => run S (.nck (.c a0)) [] H fun t15_6 H
  => run S (.fad 1 (.c t15_6)) [] H fun t16_7 H => run S (.st (.c t16_7) (.c t14_5)) [] H fun _ H => run S (.lenS (.c a1)) [] H fun t18_8 H => R (tup [t18_8, .nilIface])
  H
theorem h160 (S : Sys) (a0 a1 : Value) (H : Heap) (R : Kv) : wpC S k160.body (Env.get [a0, a1]) H (fn [(.t 4), (.t 5)] R) = s160 S a0 a1 H R := by kernel_rfl
theorem w160 {S : Sys} (hR : S.R 160 = none) (hF : S.F 160 = some k160) (a0 a1 : Value) {H : Heap} {R : Kv} (h : s160 S a0 a1 H R) : Wf S 160 [a0, a1] H R := Wf_sh hR hF
  ((h160 S a0 a1 H R).mpr h)
def s161 (S : Sys) (a0 : Value) (H : Heap) (R : Kv) : Prop := run S (.nck (.c a0)) [] H fun t4_1 H => run S (.fad 1 (.c t4_1)) [] H fun t5_2 H => run S (.ld (.c t5_2))
  [] H fun t6_3 H => run S (.nck (.c a0)) [] H fun t9_4 H => run S (.fad 1 (.c t9_4)) [] H fun t10_5 H => run S (.ld (.c t10_5)) [] H fun t11_6 H => run S (.lenL (.c
  t11_6)) [] H fun t12_7 H => run S .nev [] H fun t7_8 H => ck (kop (.ld (.c t10_5)) [] H) t11_6 (run S .nev [] H fun t13_9 H => R t13_9 H)
theorem h161 (S : Sys) (a0 : Value) (H : Heap) (R : Kv) : wpC S k161.body (Env.get [a0]) H (fn [(.t 2)] R) = s161 S a0 H R := by kernel_rfl
theorem w161 {S : Sys} (hR : S.R 161 = none) (hF : S.F 161 = some k161) (a0 : Value) {H : Heap} {R : Kv} (h : s161 S a0 H R) : Wf S 161 [a0] H R := Wf_sh hR hF ((h161 S
  a0 H R).mpr h)
def b162_0 : KCode := (.seq (.reg [(.op (some 9) none (.bin .lss (.t 8) (.t 7)))]) (.seq (.cond (.t 9) .skip (.exit 0)) (.seq (.block 1 (.seq (.reg [(.op (some 10) none
  (.iad 1 (.t 6) (.t 8))), (.op (some 11) none (.ld (.t 10))), (.op (some 5) none (.mv (.t 11)))]) (.reg [(.op (some 12) none (.mv (.t 3))), (.op (some 13) none (.mv (.t
  5))), (.op (some 14) none (.bin .add (.t 12) (.t 13))), (.op (some 3) none (.mv (.t 14)))]))) (.reg [(.op (some 15) none (.bin .add (.t 8) (.c (.int .i64 1)))), (.op
  (some 8) none (.mv (.t 15)))]))))
def s162_0 (S : Sys) (e : Fe) (H : Heap) (Q : Kx) : Prop := run S (.bin .lss (.c (e 8)) (.c (e 7))) [] H fun t9_5 H => jn (sq (fun e7 H => jn (sq (fun e9 H => run S
  (.bin .add (.c (e9 8)) (.c (.int .i64 1))) [] H fun t15_10 H => Q .normal (upd (upd e9 15 t15_10) 8 t15_10) H) Q) fun Q8 => run S (.iad 1 (.c (e7 6)) (.c (e7 8))) [] H
  fun t10_11 H => run S (.ld (.c t10_11)) [] H fun t11_12 H => run S (.bin .add (.c (e7 3)) (.c t11_12)) [] H fun t14_13 H => Q8 .normal (upd (upd (upd (upd (upd (upd
  (upd e7 10 t10_11) 11 t11_12) 5 t11_12) 12 (e7 3)) 13 t11_12) 14 t14_13) 3 t14_13) H) Q) fun Q6 => cnd t9_5 (fun Q14 => Q14 .normal (upd e 9 t9_5) H) (fun Q15 => Q15
  (.exit 0) (upd e 9 t9_5) H) Q6
theorem h162_0 (S : Sys) (e : Fe) (H : Heap) (Q : Kx) : wpC S b162_0 e H Q = s162_0 S e H Q := by kernel_rfl
theorem l162_0 (S : Sys) {Q : Kx} (I : Nat → Fe → Heap → Prop) (d : Nat) {e0 : Fe} {H : Heap} (h0 : I d e0 H) (hr : ∀ (d : Nat) (e : Fe) (H : Heap), I d e H → s162_0 S e
  H (sq (fun e' H' => ∃ d', d' < d ∧ I d' e' H') Q)) : WL S b162_0 e0 H Q := WL_inv I d h0 fun d e H hi => (h162_0 S e H _).mpr (hr d e H hi)
theorem u162_0 (S : Sys) {Q : Kx} {e : Fe} {H : Heap} (h : s162_0 S e H (sq (fun e' H' => WL S b162_0 e' H' Q) Q)) : WL S b162_0 e H Q := WL_once ((h162_0 S e H _).mpr h)
def s162 (S : Sys) (a0 : Value) (H : Heap) (R : Kv) : Prop := run S (.lenL (.c a0)) [] H fun t7_1 H => jn (sq (fun e3 H => R (e3 3) H) (fn [(.t 2)] R)) fun Q2 => jn (blk
  0 Q2) fun Q4 => WL S b162_0 (upd (upd (upd (upd (upd (Env.get [a0]) 2 (.int .i64 0)) 3 (.int .i64 0)) 6 a0) 7 t7_1) 8 (.int .i64 0)) H Q4
theorem h162 (S : Sys) (a0 : Value) (H : Heap) (R : Kv) : wpC S k162.body (Env.get [a0]) H (fn [(.t 2)] R) = s162 S a0 H R := by kernel_rfl
theorem w162 {S : Sys} (hR : S.R 162 = none) (hF : S.F 162 = some k162) (a0 : Value) {H : Heap} {R : Kv} (h : s162 S a0 H R) : Wf S 162 [a0] H R := Wf_sh hR hF ((h162 S
  a0 H R).mpr h)
def b167_0 : KCode := (.seq (.reg [(.op (some 8) none (.bin .lss (.t 7) (.c (.int .i64 10))))]) (.seq (.cond (.t 8) .skip (.exit 0)) (.seq (.block 1 (.seq (.reg [(.op
  (some 9) none (.mv (.t 7))), (.op (some 4) none (.mv (.t 9)))]) (.seq (.reg [(.op (some 10) none (.mv (.t 0))), (.op (some 11) none (.call 110 [(.t 10), (.c (.int .i64
  1))])), (.op (some 5) none (.mv (.t 11)))]) (.seq (.seq (.reg [(.op (some 12) none (.mv (.t 5))), (.op (some 13) none (.bin .eql (.t 12) (.c (.string (bs [])))))])
  (.cond (.t 13) (.seq (.reg [(.op (some 2) none (.mv (.c (.int .u64 0))))]) .ret) .skip)) (.seq (.reg [(.op (some 14) none (.mv (.t 5))), (.op (some 15) none (.idS (.t
  14) (.c (.int .i64 0)))), (.op (some 16) none (.cvt .u64 (.t 15))), (.op (some 6) none (.mv (.t 16)))]) (.seq (.seq (.reg [(.op (some 17) none (.mv (.t 4))), (.op
  (some 18) none (.bin .eql (.t 17) (.c (.int .i64 9)))), (.op (some 19) none (.mv (.t 18))), (.op (some 20) (some (19, true)) (.mv (.t 6))), (.op (some 21) (some (19,
  true)) (.bin .gtr (.t 20) (.c (.int .u64 1)))), (.op (some 22) none (.pick (.t 19) (.t 21) (.c (.bool false)))), (.op (some 23) none (.mv (.t 22))), (.op (some 24)
  (some (23, false)) (.mv (.t 4))), (.op (some 25) (some (23, false)) (.bin .gtr (.t 24) (.c (.int .i64 0)))), (.op (some 26) (some (23, false)) (.mv (.t 25))), (.op
  (some 27) (some (26, true)) (.mv (.t 6))), (.op (some 28) (some (26, true)) (.bin .eql (.t 27) (.c (.int .u64 0)))), (.op (some 29) (some (23, false)) (.pick (.t 26)
  (.t 28) (.c (.bool false)))), (.op (some 30) none (.pick (.t 23) (.c (.bool true)) (.t 29)))]) (.cond (.t 30) (.exit 0) .skip)) (.seq (.reg [(.op (some 31) none (.mv
  (.t 3))), (.op (some 32) none (.mv (.t 6))), (.op (some 33) none (.bin .and (.t 32) (.c (.int .u64 127)))), (.op (some 34) none (.mv (.t 4))), (.op (some 35) none
  (.bin .mul (.c (.int .i64 7)) (.t 34))), (.op (some 36) none (.bin .shl (.t 33) (.t 35))), (.op (some 37) none (.bin .or (.t 31) (.t 36))), (.op (some 3) none (.mv (.t
  37)))]) (.seq (.reg [(.op (some 38) none (.mv (.t 6))), (.op (some 39) none (.bin .lss (.t 38) (.c (.int .u64 128))))]) (.cond (.t 39) (.seq (.reg [(.op (some 40) none
  (.mv (.t 3))), (.op (some 2) none (.mv (.t 40)))]) .ret) .skip))))))))) (.reg [(.op (some 41) none (.bin .add (.t 7) (.c (.int .i64 1)))), (.op (some 7) none (.mv (.t
  41)))]))))
def s167_0 (S : Sys) (e : Fe) (H : Heap) (Q : Kx) : Prop := run S (.bin .lss (.c (e 7)) (.c (.int .i64 10))) [] H fun t8_5 H => jn (sq (fun e7 H => jn (sq (fun e9 H =>
  run S (.bin .add (.c (e9 7)) (.c (.int .i64 1))) [] H fun t41_10 H => Q .normal (upd (upd e9 41 t41_10) 7 t41_10) H) Q) fun Q8 => run S (.call 110 [(.c (e7 0)), (.c
  (.int .i64 1))]) [] H fun t11_11 H => run S (.bin .eql (.c t11_11) (.c (.string (bs [])))) [] H fun t13_12 H => jn (blk 1 Q8) fun Q13 => jn (sq (fun e15 H => run S
  (.idS (.c (e15 5)) (.c (.int .i64 0))) [] H fun t15_16 H => run S (.cvt .u64 (.c t15_16)) [] H fun t16_17 H => run S (.bin .eql (.c (e15 4)) (.c (.int .i64 9))) [] H
  fun t18_18 H => gd t18_18 true (run S (.mv (.c t16_17)) [] H) H fun t20_19 H => gd t18_18 true (run S (.bin .gtr (.c t20_19) (.c (.int .u64 1))) [] H) H fun t21_20 H
  => run S (.pick (.c t18_18) (.c t21_20) (.c (.bool false))) [] H fun t22_21 H => gd t22_21 false (run S (.mv (.c (e15 4))) [] H) H fun t24_22 H => gd t22_21 false (run
  S (.bin .gtr (.c t24_22) (.c (.int .i64 0))) [] H) H fun t25_23 H => gd t22_21 false (run S (.mv (.c t25_23)) [] H) H fun t26_24 H => gd t26_24 true (run S (.mv (.c
  t16_17)) [] H) H fun t27_25 H => gd t26_24 true (run S (.bin .eql (.c t27_25) (.c (.int .u64 0))) [] H) H fun t28_26 H => gd t22_21 false (run S (.pick (.c t26_24) (.c
  t28_26) (.c (.bool false))) [] H) H fun t29_27 H => run S (.pick (.c t22_21) (.c (.bool true)) (.c t29_27)) [] H fun t30_28 H => jn (sq (fun e30 H => run S (.bin .and
  (.c (e30 6)) (.c (.int .u64 127))) [] H fun t33_31 H => run S (.bin .mul (.c (.int .i64 7)) (.c (e30 4))) [] H fun t35_32 H => run S (.bin .shl (.c t33_31) (.c
  t35_32)) [] H fun t36_33 H => run S (.bin .or (.c (e30 3)) (.c t36_33)) [] H fun t37_34 H => run S (.bin .lss (.c (e30 6)) (.c (.int .u64 128))) [] H fun t39_35 H =>
  cnd t39_35 (fun Q36 => Q36 .ret (upd (upd (upd (upd (upd (upd (upd (upd (upd (upd (upd (upd e30 31 (e30 3)) 32 (e30 6)) 33 t33_31) 34 (e30 4)) 35 t35_32) 36 t36_33) 37
  t37_34) 3 t37_34) 38 (e30 6)) 39 t39_35) 40 t37_34) 2 t37_34) H) (fun Q37 => Q37 .normal (upd (upd (upd (upd (upd (upd (upd (upd (upd (upd e30 31 (e30 3)) 32 (e30 6))
  33 t33_31) 34 (e30 4)) 35 t35_32) 36 t36_33) 37 t37_34) 3 t37_34) 38 (e30 6)) 39 t39_35) H) Q13) Q13) fun Q29 => cnd t30_28 (fun Q38 => Q38 (.exit 0) (upd (upd (upd
  (upd (upd (upd (upd (upd (upd (upd (upd (upd (upd (upd (upd (upd (upd (upd e15 14 (e15 5)) 15 t15_16) 16 t16_17) 6 t16_17) 17 (e15 4)) 18 t18_18) 19 t18_18) 20 t20_19)
  21 t21_20) 22 t22_21) 23 t22_21) 24 t24_22) 25 t25_23) 26 t26_24) 27 t27_25) 28 t28_26) 29 t29_27) 30 t30_28) H) (fun Q39 => Q39 .normal (upd (upd (upd (upd (upd (upd
  (upd (upd (upd (upd (upd (upd (upd (upd (upd (upd (upd (upd e15 14 (e15 5)) 15 t15_16) 16 t16_17) 6 t16_17) 17 (e15 4)) 18 t18_18) 19 t18_18) 20 t20_19) 21 t21_20) 22
  t22_21) 23 t22_21) 24 t24_22) 25 t25_23) 26 t26_24) 27 t27_25) 28 t28_26) 29 t29_27) 30 t30_28) H) Q29) Q13) fun Q14 => cnd t13_12 (fun Q40 => Q40 .ret (upd (upd (upd
  (upd (upd (upd (upd (upd e7 9 (e7 7)) 4 (e7 7)) 10 (e7 0)) 11 t11_11) 5 t11_11) 12 t11_11) 13 t13_12) 2 (.int .u64 0)) H) (fun Q41 => Q41 .normal (upd (upd (upd (upd
  (upd (upd (upd e7 9 (e7 7)) 4 (e7 7)) 10 (e7 0)) 11 t11_11) 5 t11_11) 12 t11_11) 13 t13_12) H) Q14) Q) fun Q6 => cnd t8_5 (fun Q42 => Q42 .normal (upd e 8 t8_5) H)
  (fun Q43 => Q43 (.exit 0) (upd e 8 t8_5) H) Q6
theorem h167_0 (S : Sys) (e : Fe) (H : Heap) (Q : Kx) : wpC S b167_0 e H Q = s167_0 S e H Q := by kernel_rfl
theorem l167_0 (S : Sys) {Q : Kx} (I : Nat → Fe → Heap → Prop) (d : Nat) {e0 : Fe} {H : Heap} (h0 : I d e0 H) (hr : ∀ (d : Nat) (e : Fe) (H : Heap), I d e H → s167_0 S e
  H (sq (fun e' H' => ∃ d', d' < d ∧ I d' e' H') Q)) : WL S b167_0 e0 H Q := WL_inv I d h0 fun d e H hi => (h167_0 S e H _).mpr (hr d e H hi)
theorem u167_0 (S : Sys) {Q : Kx} {e : Fe} {H : Heap} (h : s167_0 S e H (sq (fun e' H' => WL S b167_0 e' H' Q) Q)) : WL S b167_0 e H Q := WL_once ((h167_0 S e H _).mpr h)
def s167 (S : Sys) (a0 : Value) (H : Heap) (R : Kv) : Prop := jn (sq (fun e2 H => run S (.call 151 [(.c (e2 0))]) [] H fun t43_3 H => R (.int .u64 0) H) (fn [(.t 2)] R))
  fun Q1 => jn (blk 0 Q1) fun Q4 => WL S b167_0 (upd (upd (upd (Env.get [a0]) 2 (.int .u64 0)) 3 (.int .u64 0)) 7 (.int .i64 0)) H Q4
theorem h167 (S : Sys) (a0 : Value) (H : Heap) (R : Kv) : wpC S k167.body (Env.get [a0]) H (fn [(.t 2)] R) = s167 S a0 H R := by kernel_rfl
theorem w167 {S : Sys} (hR : S.R 167 = none) (hF : S.F 167 = some k167) (a0 : Value) {H : Heap} {R : Kv} (h : s167 S a0 H R) : Wf S 167 [a0] H R := Wf_sh hR hF ((h167 S
  a0 H R).mpr h)
def s168 (S : Sys) (a0 a1 : Value) (H : Heap) (R : Kv) : Prop := jn (sq (fun e2 H => run S (.call 179 [(.c (e2 0)), (.c (e2 1))]) [] H fun t25_3 H => run S (.xt (.c
  t25_3) 0) [] H fun t26_4 H => run S (.xt (.c t25_3) 1) [] H fun t27_5 H => R (tup [t26_4, t27_5]) H) (fn [(.t 4), (.t 5)] R)) fun Q1 => cnd (.bool false) (fun Q6 =>
  run S (.cvt .u32 (.c a0)) [] H fun t12_8 H => run S (.cvt .u32 (.c a1)) [] H fun t14_9 H => run S (.call 178 [(.c t12_8), (.c t14_9)]) [] H fun t15_10 H => run S (.xt
  (.c t15_10) 0) [] H fun t16_11 H => run S (.xt (.c t15_10) 1) [] H fun t17_12 H => run S (.cvt .u64 (.c t16_11)) [] H fun t19_13 H => run S (.cvt .u64 (.c t17_12)) []
  H fun t21_14 H => Q6 .ret (upd (upd (upd (upd (upd (upd (upd (upd (upd (upd (upd (upd (upd (upd (upd (upd (upd (upd (Env.get [a0, a1]) 4 (.int .u64 0)) 5 (.int .u64
  0)) 11 a0) 12 t12_8) 13 a1) 14 t14_9) 15 t15_10) 10 t15_10) 16 t16_11) 17 t17_12) 6 t16_11) 7 t17_12) 18 t16_11) 19 t19_13) 20 t17_12) 21 t21_14) 4 t19_13) 5 t21_14)
  H) (fun Q7 => Q7 .normal (upd (upd (Env.get [a0, a1]) 4 (.int .u64 0)) 5 (.int .u64 0)) H) Q1
theorem h168 (S : Sys) (a0 a1 : Value) (H : Heap) (R : Kv) : wpC S k168.body (Env.get [a0, a1]) H (fn [(.t 4), (.t 5)] R) = s168 S a0 a1 H R := by kernel_rfl
theorem w168 {S : Sys} (hR : S.R 168 = none) (hF : S.F 168 = some k168) (a0 a1 : Value) {H : Heap} {R : Kv} (h : s168 S a0 a1 H R) : Wf S 168 [a0, a1] H R := Wf_sh hR hF
  ((h168 S a0 a1 H R).mpr h)
def s169 (S : Sys) (a0 a1 : Value) (H : Heap) (R : Kv) : Prop := run S (.call 180 [(.c a0), (.c a1)]) [] H fun t7_1 H => R t7_1 H
theorem h169 (S : Sys) (a0 a1 : Value) (H : Heap) (R : Kv) : wpC S k169.body (Env.get [a0, a1]) H (fn [(.t 4)] R) = s169 S a0 a1 H R := by kernel_rfl
theorem w169 {S : Sys} (hR : S.R 169 = none) (hF : S.F 169 = some k169) (a0 a1 : Value) {H : Heap} {R : Kv} (h : s169 S a0 a1 H R) : Wf S 169 [a0, a1] H R := Wf_sh hR hF
  ((h169 S a0 a1 H R).mpr h)
def s170 (S : Sys) (a0 : Value) (H : Heap) (R : Kv) : Prop := run S (.nck (.c a0)) [] H fun t4_1 H => run S (.fad 1 (.c t4_1)) [] H fun t5_2 H => run S (.ld (.c t5_2))
  [] H fun t6_3 H => run S (.lenL (.c t6_3)) [] H fun t7_4 H => R t7_4 H
theorem h170 (S : Sys) (a0 : Value) (H : Heap) (R : Kv) : wpC S k170.body (Env.get [a0]) H (fn [(.t 2)] R) = s170 S a0 H R := by kernel_rfl
theorem w170 {S : Sys} (hR : S.R 170 = none) (hF : S.F 170 = some k170) (a0 : Value) {H : Heap} {R : Kv} (h : s170 S a0 H R) : Wf S 170 [a0] H R := Wf_sh hR hF ((h170 S
  a0 H R).mpr h)
def s175 (S : Sys) (a0 : Value) (H : Heap) (R : Kv) : Prop := run S (.nck (.c a0)) [] H fun t3_1 H => run S (.fad 0 (.c t3_1)) [] H fun t4_2 H => run S (.ld (.c t4_2))
  [] H fun t5_3 H => run S (.eqv .ptr false (.c t5_3) (.c (.pointer none))) [] H fun t6_4 H => cnd t6_4 (fun Q5 => run S .nev [] H fun t9_7 H => run S .nev [] H fun
  t10_8 H => run S .nev [] H fun t11_9 H => run S (.nck (.c a0)) [] H fun t12_10 H => run S (.fad 0 (.c t12_10)) [] H fun t13_11 H => run S (.st (.c t13_11) (.c t11_9))
  [] H fun _ H => Q5 .normal (upd (upd (upd (upd (upd (upd (upd (upd (upd (upd (upd (upd (Env.get [a0]) 2 a0) 3 t3_1) 4 t4_2) 5 t5_3) 6 t6_4) 7 a0) 8 a0) 9 t9_7) 10
  t10_8) 11 t11_9) 12 t12_10) 13 t13_11) H) (fun Q6 => run S (.nck (.c a0)) [] H fun t15_12 H => run S (.fad 0 (.c t15_12)) [] H fun t16_13 H => run S (.ld (.c t16_13))
  [] H fun t17_14 H => run S (.eqv .ptr true (.c t17_14) (.c a0)) [] H fun t19_15 H => cnd t19_15 (fun Q16 => False) (fun Q17 => Q17 .normal (upd (upd (upd (upd (upd
  (upd (upd (upd (upd (upd (upd (Env.get [a0]) 2 a0) 3 t3_1) 4 t4_2) 5 t5_3) 6 t6_4) 14 a0) 15 t15_12) 16 t16_13) 17 t17_14) 18 a0) 19 t19_15) H) Q6) (fn [] R)
theorem h175 (S : Sys) (a0 : Value) (H : Heap) (R : Kv) : wpC S k175.body (Env.get [a0]) H (fn [] R) = s175 S a0 H R := by kernel_rfl
theorem w175 {S : Sys} (hR : S.R 175 = none) (hF : S.F 175 = some k175) (a0 : Value) {H : Heap} {R : Kv} (h : s175 S a0 H R) : Wf S 175 [a0] H R := Wf_sh hR hF ((h175 S
  a0 H R).mpr h)
def s176 (S : Sys) (a0 a1 : Value) (H : Heap) (R : Kv) : Prop := run S (.nck (.c a0)) [] H fun t6_1 H => run S (.fad 1 (.c t6_1)) [] H fun t7_2 H => run S (.ld (.c
  t7_2)) [] H fun t8_3 H => run S (.nck (.c a0)) [] H fun t15_4 H => run S (.fad 1 (.c t15_4)) [] H fun t16_5 H => run S (.ld (.c t16_5)) [] H fun t17_6 H => run S
  (.lenL (.c t17_6)) [] H fun t18_7 H => run S .nev [] H fun t9_8 H => ck (kop (.ld (.c t16_5)) [] H) t17_6 (run S (.bin .mul (.c (.int .i64 2)) (.c t9_8)) [] H fun
  t10_9 H => run S (.bin .add (.c t10_9) (.c a1)) [] H fun t12_10 H => run S .nev [] H fun t13_11 H => ck (kop (.ld (.c t16_5)) [] H) t17_6 (run S (.slc 5 1 (.c t13_11)
  none (some (.c t18_7))) [] H fun t19_12 H => run S (.nck (.c a0)) [] H fun t22_13 H => run S (.fad 1 (.c t22_13)) [] H fun t23_14 H => run S (.ld (.c t23_14)) [] H fun
  t24_15 H => run S (.cpy 5 1 (.c t19_12) (.c t24_15)) [] H fun t25_16 H => run S (.nck (.c a0)) [] H fun t28_17 H => run S (.fad 1 (.c t28_17)) [] H fun t29_18 H => run
  S (.st (.c t29_18) (.c t19_12)) [] H fun _ H => R (tup []) H))
theorem h176 (S : Sys) (a0 a1 : Value) (H : Heap) (R : Kv) : wpC S k176.body (Env.get [a0, a1]) H (fn [] R) = s176 S a0 a1 H R := by kernel_rfl
theorem w176 {S : Sys} (hR : S.R 176 = none) (hF : S.F 176 = some k176) (a0 a1 : Value) {H : Heap} {R : Kv} (h : s176 S a0 a1 H R) : Wf S 176 [a0, a1] H R := Wf_sh hR hF
  ((h176 S a0 a1 H R).mpr h)
def s178 (S : Sys) (a0 a1 : Value) (H : Heap) (R : Kv) : Prop := run S (.cvt .u64 (.c a0)) [] H fun t8_1 H => run S (.cvt .u64 (.c a1)) [] H fun t10_2 H => run S (.bin
  .mul (.c t8_1) (.c t10_2)) [] H fun t11_3 H => run S (.bin .shr (.c t11_3) (.c (.int .u64 32))) [] H fun t13_4 H => run S (.cvt .u32 (.c t13_4)) [] H fun t14_5 H =>
  run S (.cvt .u32 (.c t11_3)) [] H fun t16_6 H => R (tup [t14_5, t16_6]) H
theorem h178 (S : Sys) (a0 a1 : Value) (H : Heap) (R : Kv) : wpC S k178.body (Env.get [a0, a1]) H (fn [(.t 4), (.t 5)] R) = s178 S a0 a1 H R := by kernel_rfl
theorem w178 {S : Sys} (hR : S.R 178 = none) (hF : S.F 178 = some k178) (a0 a1 : Value) {H : Heap} {R : Kv} (h : s178 S a0 a1 H R) : Wf S 178 [a0, a1] H R := Wf_sh hR hF
  ((h178 S a0 a1 H R).mpr h)
def s179 (S : Sys) (a0 a1 : Value) (H : Heap) (R : Kv) : Prop := run S (.bin .and (.c a0) (.c (.int .u64 4294967295))) [] H fun t15_1 H => run S (.bin .shr (.c a0) (.c
  (.int .u64 32))) [] H fun t17_2 H => run S (.bin .and (.c a1) (.c (.int .u64 4294967295))) [] H fun t19_3 H => run S (.bin .shr (.c a1) (.c (.int .u64 32))) [] H fun
  t21_4 H => run S (.bin .mul (.c t15_1) (.c t19_3)) [] H fun t24_5 H => run S (.bin .mul (.c t17_2) (.c t19_3)) [] H fun t27_6 H => run S (.bin .shr (.c t24_5) (.c
  (.int .u64 32))) [] H fun t29_7 H => run S (.bin .add (.c t27_6) (.c t29_7)) [] H fun t30_8 H => run S (.bin .and (.c t30_8) (.c (.int .u64 4294967295))) [] H fun
  t32_9 H => run S (.bin .shr (.c t30_8) (.c (.int .u64 32))) [] H fun t34_10 H => run S (.bin .mul (.c t15_1) (.c t21_4)) [] H fun t38_11 H => run S (.bin .add (.c
  t32_9) (.c t38_11)) [] H fun t39_12 H => run S (.bin .mul (.c t17_2) (.c t21_4)) [] H fun t42_13 H => run S (.bin .add (.c t42_13) (.c t34_10)) [] H fun t44_14 H =>
  run S (.bin .shr (.c t39_12) (.c (.int .u64 32))) [] H fun t46_15 H => run S (.bin .add (.c t44_14) (.c t46_15)) [] H fun t47_16 H => run S (.bin .mul (.c a0) (.c a1))
  [] H fun t50_17 H => R (tup [t47_16, t50_17]) H
theorem h179 (S : Sys) (a0 a1 : Value) (H : Heap) (R : Kv) : wpC S k179.body (Env.get [a0, a1]) H (fn [(.t 4), (.t 5)] R) = s179 S a0 a1 H R := by kernel_rfl
theorem w179 {S : Sys} (hR : S.R 179 = none) (hF : S.F 179 = some k179) (a0 a1 : Value) {H : Heap} {R : Kv} (h : s179 S a0 a1 H R) : Wf S 179 [a0, a1] H R := Wf_sh hR hF
  ((h179 S a0 a1 H R).mpr h)
def s180 (S : Sys) (a0 a1 : Value) (H : Heap) (R : Kv) : Prop := run S (.lenS (.c a0)) [] H fun t6_1 H => run S (.lenS (.c a1)) [] H fun t8_2 H => run S (.bin .geq (.c
  t6_1) (.c t8_2)) [] H fun t9_3 H => gd t9_3 true (run S (.mv (.c a0)) [] H) H fun t11_4 H => gd t9_3 true (run S (.mv (.c a1)) [] H) H fun t12_5 H => gd t9_3 true (run
  S (.lenS (.c t12_5)) [] H) H fun t13_6 H => gd t9_3 true (run S (.slS (.c t11_4) none (some (.c t13_6))) [] H) H fun t14_7 H => gd t9_3 true (run S (.mv (.c a1)) [] H)
  H fun t15_8 H => gd t9_3 true (run S (.bin .eql (.c t14_7) (.c t15_8)) [] H) H fun t16_9 H => run S (.pick (.c t9_3) (.c t16_9) (.c (.bool false))) [] H fun t17_10 H
  => R t17_10 H
theorem h180 (S : Sys) (a0 a1 : Value) (H : Heap) (R : Kv) : wpC S k180.body (Env.get [a0, a1]) H (fn [(.t 4)] R) = s180 S a0 a1 H R := by kernel_rfl
theorem w180 {S : Sys} (hR : S.R 180 = none) (hF : S.F 180 = some k180) (a0 a1 : Value) {H : Heap} {R : Kv} (h : s180 S a0 a1 H R) : Wf S 180 [a0, a1] H R := Wf_sh hR hF
  ((h180 S a0 a1 H R).mpr h)
end Go.Proofs.Ytpcpelbbeofenaa.K
