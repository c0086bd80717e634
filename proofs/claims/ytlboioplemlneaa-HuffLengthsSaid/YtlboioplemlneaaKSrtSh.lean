/- The functions as nested words with named values, each held against its code by the kernel. Printed by a program of this work (sh.py). -/
import Derived.Test.YtlboioplemlneaaKLowSh3
set_option maxRecDepth 100000
set_option linter.unusedVariables false
namespace Go.Proofs.Ytlboioplemlneaa.K
open Go Go.Proofs
def s122 (S : Sys) (a0 a1 : Value) (H : Heap) (R : Kv) : Prop := run S (.lenL (.c a0)) [] H fun t6_1 H => run S (.call 136 [(.c a0), (.c t6_1), (.c a1)]) [] H fun t8_2 H
  => R (tup []) H
theorem h122 (S : Sys) (a0 a1 : Value) (H : Heap) (R : Kv) : wpC S k122.body (Env.get [a0, a1]) H (fn [] R) = s122 S a0 a1 H R := by kernel_rfl
theorem w122 {S : Sys} (hR : S.R 122 = none) (hF : S.F 122 = some k122) (a0 a1 : Value) {H : Heap} {R : Kv} (h : s122 S a0 a1 H R) : Wf S 122 [a0, a1] H R := Wf_sh hR hF
  ((h122 S a0 a1 H R).mpr h)
def s123 (S : Sys) (a0 a1 a2 : Value) (H : Heap) (R : Kv) : Prop := run S (.ld (.c a2)) [] H fun t6_1 H => run S (.iad 1 (.c t6_1) (.c a1)) [] H fun t8_2 H => run S (.ld
  (.c t8_2)) [] H fun t9_3 H => run S (.ld (.c a2)) [] H fun t10_4 H => run S (.iad 1 (.c t10_4) (.c a0)) [] H fun t12_5 H => run S (.ld (.c t12_5)) [] H fun t13_6 H =>
  run S (.call 124 [(.c t9_3), (.c t13_6)]) [] H fun t14_7 H => R t14_7 H
theorem h123 (S : Sys) (a0 a1 a2 : Value) (H : Heap) (R : Kv) : wpC S k123.body (Env.get [a0, a1, a2]) H (fn [(.t 5)] R) = s123 S a0 a1 a2 H R := by kernel_rfl
theorem w123 {S : Sys} (hR : S.R 123 = none) (hF : S.F 123 = some k123) (a0 a1 a2 : Value) {H : Heap} {R : Kv} (h : s123 S a0 a1 a2 H R) : Wf S 123 [a0, a1, a2] H R :=
  Wf_sh hR hF ((h123 S a0 a1 a2 H R).mpr h)
def b136_2 : KCode := (.seq (.seq (.reg [(.op (some 33) none (.mv (.t 8))), (.op (some 34) none (.mv (.t 1))), (.op (some 35) none (.bin .leq (.t 33) (.t 34)))]) (.cond
  (.t 35) .skip (.exit 4))) (.block 5 (.seq (.reg [(.op (some 36) none (.mv (.t 0))), (.op (some 37) none (.mv (.t 7))), (.op (some 38) none (.mv (.t 7))), (.op (some
  39) none (.mv (.t 6))), (.op (some 40) none (.bin .add (.t 38) (.t 39))), (.op (some 41) none (.mv (.t 8))), (.op (some 42) none (.mv (.t 2))), (.op (some 43) none
  (.call 144 [(.t 36), (.t 37), (.t 40), (.t 41), (.t 42)]))]) (.seq (.reg [(.op (some 44) none (.mv (.t 8))), (.op (some 7) none (.mv (.t 44)))]) (.reg [(.op (some 45)
  none (.mv (.t 8))), (.op (some 46) none (.mv (.t 6))), (.op (some 47) none (.bin .mul (.c (.int .i64 2)) (.t 46))), (.op (some 48) none (.bin .add (.t 45) (.t 47))),
  (.op (some 8) none (.mv (.t 48)))])))))
def s136_2 (S : Sys) (e : Fe) (H : Heap) (Q : Kx) : Prop := run S (.bin .leq (.c (e 8)) (.c (e 1))) [] H fun t35_31 H => jn (sq (fun e33 H => run S (.bin .add (.c (e33
  7)) (.c (e33 6))) [] H fun t40_34 H => run S (.call 144 [(.c (e33 0)), (.c (e33 7)), (.c t40_34), (.c (e33 8)), (.c (e33 2))]) [] H fun t43_35 H => run S (.bin .mul
  (.c (.int .i64 2)) (.c (e33 6))) [] H fun t47_36 H => run S (.bin .add (.c (e33 8)) (.c t47_36)) [] H fun t48_37 H => Q .normal (upd (upd (upd (upd (upd (upd (upd (upd
  (upd (upd (upd (upd (upd (upd (upd e33 36 (e33 0)) 37 (e33 7)) 38 (e33 7)) 39 (e33 6)) 40 t40_34) 41 (e33 8)) 42 (e33 2)) 43 t43_35) 44 (e33 8)) 7 (e33 8)) 45 (e33 8))
  46 (e33 6)) 47 t47_36) 48 t48_37) 8 t48_37) H) Q) fun Q32 => cnd t35_31 (fun Q38 => Q38 .normal (upd (upd (upd e 33 (e 8)) 34 (e 1)) 35 t35_31) H) (fun Q39 => Q39
  (.exit 4) (upd (upd (upd e 33 (e 8)) 34 (e 1)) 35 t35_31) H) Q32
theorem h136_2 (S : Sys) (e : Fe) (H : Heap) (Q : Kx) : wpC S b136_2 e H Q = s136_2 S e H Q := by kernel_rfl
theorem l136_2 (S : Sys) {Q : Kx} (I : Nat → Fe → Heap → Prop) (d : Nat) {e0 : Fe} {H : Heap} (h0 : I d e0 H) (hr : ∀ (d : Nat) (e : Fe) (H : Heap), I d e H → s136_2 S e
  H (sq (fun e' H' => ∃ d', d' < d ∧ I d' e' H') Q)) : WL S b136_2 e0 H Q := WL_inv I d h0 fun d e H hi => (h136_2 S e H _).mpr (hr d e H hi)
theorem u136_2 (S : Sys) {Q : Kx} {e : Fe} {H : Heap} (h : s136_2 S e H (sq (fun e' H' => WL S b136_2 e' H' Q) Q)) : WL S b136_2 e H Q := WL_once ((h136_2 S e H _).mpr h)
def b136_1 : KCode := (.seq (.seq (.reg [(.op (some 11) none (.mv (.t 8))), (.op (some 12) none (.mv (.t 1))), (.op (some 13) none (.bin .leq (.t 11) (.t 12)))]) (.cond
  (.t 13) .skip (.exit 0))) (.block 1 (.seq (.reg [(.op (some 14) none (.mv (.t 0))), (.op (some 15) none (.mv (.t 7))), (.op (some 16) none (.mv (.t 8))), (.op (some
  17) none (.mv (.t 2))), (.op (some 18) none (.call 143 [(.t 14), (.t 15), (.t 16), (.t 17)]))]) (.seq (.reg [(.op (some 19) none (.mv (.t 8))), (.op (some 7) none (.mv
  (.t 19)))]) (.reg [(.op (some 20) none (.mv (.t 8))), (.op (some 21) none (.mv (.t 6))), (.op (some 22) none (.bin .add (.t 20) (.t 21))), (.op (some 8) none (.mv (.t
  22)))])))))
def s136_1 (S : Sys) (e : Fe) (H : Heap) (Q : Kx) : Prop := run S (.bin .leq (.c (e 8)) (.c (e 1))) [] H fun t13_24 H => jn (sq (fun e26 H => run S (.call 143 [(.c (e26
  0)), (.c (e26 7)), (.c (e26 8)), (.c (e26 2))]) [] H fun t18_27 H => run S (.bin .add (.c (e26 8)) (.c (e26 6))) [] H fun t22_28 H => Q .normal (upd (upd (upd (upd
  (upd (upd (upd (upd (upd (upd (upd e26 14 (e26 0)) 15 (e26 7)) 16 (e26 8)) 17 (e26 2)) 18 t18_27) 19 (e26 8)) 7 (e26 8)) 20 (e26 8)) 21 (e26 6)) 22 t22_28) 8 t22_28)
  H) Q) fun Q25 => cnd t13_24 (fun Q29 => Q29 .normal (upd (upd (upd e 11 (e 8)) 12 (e 1)) 13 t13_24) H) (fun Q30 => Q30 (.exit 0) (upd (upd (upd e 11 (e 8)) 12 (e 1))
  13 t13_24) H) Q25
theorem h136_1 (S : Sys) (e : Fe) (H : Heap) (Q : Kx) : wpC S b136_1 e H Q = s136_1 S e H Q := by kernel_rfl
theorem l136_1 (S : Sys) {Q : Kx} (I : Nat → Fe → Heap → Prop) (d : Nat) {e0 : Fe} {H : Heap} (h0 : I d e0 H) (hr : ∀ (d : Nat) (e : Fe) (H : Heap), I d e H → s136_1 S e
  H (sq (fun e' H' => ∃ d', d' < d ∧ I d' e' H') Q)) : WL S b136_1 e0 H Q := WL_inv I d h0 fun d e H hi => (h136_1 S e H _).mpr (hr d e H hi)
theorem u136_1 (S : Sys) {Q : Kx} {e : Fe} {H : Heap} (h : s136_1 S e H (sq (fun e' H' => WL S b136_1 e' H' Q) Q)) : WL S b136_1 e H Q := WL_once ((h136_1 S e H _).mpr h)
def b136_0 : KCode := (.seq (.seq (.reg [(.op (some 28) none (.mv (.t 6))), (.op (some 29) none (.mv (.t 1))), (.op (some 30) none (.bin .lss (.t 28) (.t 29)))]) (.cond
  (.t 30) .skip (.exit 2))) (.block 3 (.seq (.reg [(.op (some 31) none (.mv (.t 6))), (.op (some 32) none (.bin .mul (.c (.int .i64 2)) (.t 31))), (.op (some 7) none
  (.mv (.c (.int .i64 0)))), (.op (some 8) none (.mv (.t 32)))]) (.seq (.block 4 (.loop (.seq (.seq (.reg [(.op (some 33) none (.mv (.t 8))), (.op (some 34) none (.mv
  (.t 1))), (.op (some 35) none (.bin .leq (.t 33) (.t 34)))]) (.cond (.t 35) .skip (.exit 4))) (.block 5 (.seq (.reg [(.op (some 36) none (.mv (.t 0))), (.op (some 37)
  none (.mv (.t 7))), (.op (some 38) none (.mv (.t 7))), (.op (some 39) none (.mv (.t 6))), (.op (some 40) none (.bin .add (.t 38) (.t 39))), (.op (some 41) none (.mv
  (.t 8))), (.op (some 42) none (.mv (.t 2))), (.op (some 43) none (.call 144 [(.t 36), (.t 37), (.t 40), (.t 41), (.t 42)]))]) (.seq (.reg [(.op (some 44) none (.mv (.t
  8))), (.op (some 7) none (.mv (.t 44)))]) (.reg [(.op (some 45) none (.mv (.t 8))), (.op (some 46) none (.mv (.t 6))), (.op (some 47) none (.bin .mul (.c (.int .i64
  2)) (.t 46))), (.op (some 48) none (.bin .add (.t 45) (.t 47))), (.op (some 8) none (.mv (.t 48)))]))))))) (.seq (.seq (.reg [(.op (some 49) none (.mv (.t 7))), (.op
  (some 50) none (.mv (.t 6))), (.op (some 51) none (.bin .add (.t 49) (.t 50))), (.op (some 9) none (.mv (.t 51)))]) (.seq (.reg [(.op (some 52) none (.mv (.t 9))),
  (.op (some 53) none (.mv (.t 1))), (.op (some 54) none (.bin .lss (.t 52) (.t 53)))]) (.cond (.t 54) (.reg [(.op (some 55) none (.mv (.t 0))), (.op (some 56) none (.mv
  (.t 7))), (.op (some 57) none (.mv (.t 9))), (.op (some 58) none (.mv (.t 1))), (.op (some 59) none (.mv (.t 2))), (.op (some 60) none (.call 144 [(.t 55), (.t 56),
  (.t 57), (.t 58), (.t 59)]))]) .skip))) (.reg [(.op (some 61) none (.mv (.t 6))), (.op (some 62) none (.bin .mul (.t 61) (.c (.int .i64 2)))), (.op (some 6) none (.mv
  (.t 62)))]))))))
def s136_0 (S : Sys) (e : Fe) (H : Heap) (Q : Kx) : Prop := run S (.bin .lss (.c (e 6)) (.c (e 1))) [] H fun t30_6 H => jn (sq (fun e8 H => run S (.bin .mul (.c (.int
  .i64 2)) (.c (e8 6))) [] H fun t32_9 H => jn (blk 3 Q) fun Q10 => jn (sq (fun e12 H => run S (.bin .add (.c (e12 7)) (.c (e12 6))) [] H fun t51_13 H => run S (.bin
  .lss (.c t51_13) (.c (e12 1))) [] H fun t54_14 H => jn (sq (fun e16 H => run S (.bin .mul (.c (e16 6)) (.c (.int .i64 2))) [] H fun t62_17 H => Q10 .normal (upd (upd
  (upd e16 61 (e16 6)) 62 t62_17) 6 t62_17) H) Q10) fun Q15 => cnd t54_14 (fun Q18 => run S (.call 144 [(.c (e12 0)), (.c (e12 7)), (.c t51_13), (.c (e12 1)), (.c (e12
  2))]) [] H fun t60_20 H => Q18 .normal (upd (upd (upd (upd (upd (upd (upd (upd (upd (upd (upd (upd (upd e12 49 (e12 7)) 50 (e12 6)) 51 t51_13) 9 t51_13) 52 t51_13) 53
  (e12 1)) 54 t54_14) 55 (e12 0)) 56 (e12 7)) 57 t51_13) 58 (e12 1)) 59 (e12 2)) 60 t60_20) H) (fun Q19 => Q19 .normal (upd (upd (upd (upd (upd (upd (upd e12 49 (e12 7))
  50 (e12 6)) 51 t51_13) 9 t51_13) 52 t51_13) 53 (e12 1)) 54 t54_14) H) Q15) Q10) fun Q11 => jn (blk 4 Q11) fun Q21 => WL S b136_2 (upd (upd (upd (upd e8 31 (e8 6)) 32
  t32_9) 7 (.int .i64 0)) 8 t32_9) H Q21) Q) fun Q7 => cnd t30_6 (fun Q22 => Q22 .normal (upd (upd (upd e 28 (e 6)) 29 (e 1)) 30 t30_6) H) (fun Q23 => Q23 (.exit 2) (upd
  (upd (upd e 28 (e 6)) 29 (e 1)) 30 t30_6) H) Q7
theorem h136_0 (S : Sys) (e : Fe) (H : Heap) (Q : Kx) : wpC S b136_0 e H Q = s136_0 S e H Q := by kernel_rfl
theorem l136_0 (S : Sys) {Q : Kx} (I : Nat → Fe → Heap → Prop) (d : Nat) {e0 : Fe} {H : Heap} (h0 : I d e0 H) (hr : ∀ (d : Nat) (e : Fe) (H : Heap), I d e H → s136_0 S e
  H (sq (fun e' H' => ∃ d', d' < d ∧ I d' e' H') Q)) : WL S b136_0 e0 H Q := WL_inv I d h0 fun d e H hi => (h136_0 S e H _).mpr (hr d e H hi)
theorem u136_0 (S : Sys) {Q : Kx} {e : Fe} {H : Heap} (h : s136_0 S e H (sq (fun e' H' => WL S b136_0 e' H' Q) Q)) : WL S b136_0 e H Q := WL_once ((h136_0 S e H _).mpr h)
def s136 (S : Sys) (a0 a1 a2 : Value) (H : Heap) (R : Kv) : Prop := jn (sq (fun e2 H => run S (.call 143 [(.c (e2 0)), (.c (e2 7)), (.c (e2 1)), (.c (e2 2))]) [] H fun
  t27_3 H => jn (blk 2 (fn [] R)) fun Q4 => WL S b136_0 (upd (upd (upd (upd (upd e2 23 (e2 0)) 24 (e2 7)) 25 (e2 1)) 26 (e2 2)) 27 t27_3) H Q4) (fn [] R)) fun Q1 => jn
  (blk 0 Q1) fun Q5 => WL S b136_1 (upd (upd (upd (upd (Env.get [a0, a1, a2]) 6 (.int .i64 20)) 10 (.int .i64 20)) 7 (.int .i64 0)) 8 (.int .i64 20)) H Q5
theorem h136 (S : Sys) (a0 a1 a2 : Value) (H : Heap) (R : Kv) : wpC S k136.body (Env.get [a0, a1, a2]) H (fn [] R) = s136 S a0 a1 a2 H R := by kernel_rfl
theorem w136 {S : Sys} (hR : S.R 136 = none) (hF : S.F 136 = some k136) (a0 a1 a2 : Value) {H : Heap} {R : Kv} (h : s136 S a0 a1 a2 H R) : Wf S 136 [a0, a1, a2] H R :=
  Wf_sh hR hF ((h136 S a0 a1 a2 H R).mpr h)
def b143_1 : KCode := (.seq (.seq (.reg [(.op (some 18) none (.mv (.t 9))), (.op (some 19) none (.mv (.t 1))), (.op (some 20) none (.bin .gtr (.t 18) (.t 19))), (.op
  (some 21) none (.mv (.t 20))), (.op (some 22) (some (21, true)) (.mv (.t 3))), (.op (some 23) (some (21, true)) (.mv (.t 0))), (.op (some 24) (some (21, true)) (.mv
  (.t 9))), (.op (some 25) (some (21, true)) (.iad 1 (.t 23) (.t 24))), (.op (some 26) (some (21, true)) (.ld (.t 25))), (.op (some 27) (some (21, true)) (.mv (.t 0))),
  (.op (some 28) (some (21, true)) (.mv (.t 9))), (.op (some 29) (some (21, true)) (.bin .sub (.t 28) (.c (.int .i64 1)))), (.op (some 30) (some (21, true)) (.iad 1 (.t
  27) (.t 29))), (.op (some 31) (some (21, true)) (.ld (.t 30))), (.op (some 32) (some (21, true)) (.callv (.t 22) [(.t 26), (.t 31)])), (.op (some 33) (some (21, true))
  (.bin .lss (.t 32) (.c (.int .i64 0)))), (.op (some 34) none (.pick (.t 21) (.t 33) (.c (.bool false))))]) (.cond (.t 34) .skip (.exit 2))) (.seq (.block 3 (.reg [(.op
  (some 37) none (.mv (.t 0))), (.op (some 38) none (.mv (.t 9))), (.op (some 39) none (.mv (.t 0))), (.op (some 40) none (.mv (.t 9))), (.op (some 41) none (.bin .sub
  (.t 40) (.c (.int .i64 1)))), (.op (some 42) none (.mv (.t 0))), (.op (some 43) none (.mv (.t 9))), (.op (some 44) none (.bin .sub (.t 43) (.c (.int .i64 1)))), (.op
  (some 45) none (.iad 1 (.t 42) (.t 44))), (.op (some 46) none (.ld (.t 45))), (.op (some 47) none (.mv (.t 0))), (.op (some 48) none (.mv (.t 9))), (.op (some 49) none
  (.iad 1 (.t 47) (.t 48))), (.op (some 50) none (.ld (.t 49))), (.op (some 51) none (.iad 1 (.t 37) (.t 38))), (.op none none (.st (.t 51) (.t 46))), (.op (some 52)
  none (.iad 1 (.t 39) (.t 41))), (.op none none (.st (.t 52) (.t 50)))])) (.reg [(.op (some 35) none (.mv (.t 9))), (.op (some 36) none (.bin .sub (.t 35) (.c (.int
  .i64 1)))), (.op (some 9) none (.mv (.t 36)))])))
def s143_1 (S : Sys) (e : Fe) (H : Heap) (Q : Kx) : Prop := run S (.bin .gtr (.c (e 9)) (.c (e 1))) [] H fun t20_13 H => gd t20_13 true (run S (.mv (.c (e 3))) [] H) H
  fun t22_14 H => gd t20_13 true (run S (.mv (.c (e 0))) [] H) H fun t23_15 H => gd t20_13 true (run S (.mv (.c (e 9))) [] H) H fun t24_16 H => gd t20_13 true (run S
  (.iad 1 (.c t23_15) (.c t24_16)) [] H) H fun t25_17 H => gd t20_13 true (run S (.ld (.c t25_17)) [] H) H fun t26_18 H => gd t20_13 true (run S (.mv (.c (e 0))) [] H) H
  fun t27_19 H => gd t20_13 true (run S (.mv (.c (e 9))) [] H) H fun t28_20 H => gd t20_13 true (run S (.bin .sub (.c t28_20) (.c (.int .i64 1))) [] H) H fun t29_21 H =>
  gd t20_13 true (run S (.iad 1 (.c t27_19) (.c t29_21)) [] H) H fun t30_22 H => gd t20_13 true (run S (.ld (.c t30_22)) [] H) H fun t31_23 H => gd t20_13 true (run S
  (.callv (.c t22_14) [(.c t26_18), (.c t31_23)]) [] H) H fun t32_24 H => gd t20_13 true (run S (.bin .lss (.c t32_24) (.c (.int .i64 0))) [] H) H fun t33_25 H => run S
  (.pick (.c t20_13) (.c t33_25) (.c (.bool false))) [] H fun t34_26 H => jn (sq (fun e28 H => jn (sq (fun e30 H => run S (.bin .sub (.c (e30 9)) (.c (.int .i64 1))) []
  H fun t36_31 H => Q .normal (upd (upd (upd e30 35 (e30 9)) 36 t36_31) 9 t36_31) H) Q) fun Q29 => run S (.bin .sub (.c (e28 9)) (.c (.int .i64 1))) [] H fun t41_32 H =>
  run S (.bin .sub (.c (e28 9)) (.c (.int .i64 1))) [] H fun t44_33 H => run S (.iad 1 (.c (e28 0)) (.c t44_33)) [] H fun t45_34 H => run S (.ld (.c t45_34)) [] H fun
  t46_35 H => run S (.iad 1 (.c (e28 0)) (.c (e28 9))) [] H fun t49_36 H => run S (.ld (.c t49_36)) [] H fun t50_37 H => run S (.iad 1 (.c (e28 0)) (.c (e28 9))) [] H
  fun t51_38 H => run S (.st (.c t51_38) (.c t46_35)) [] H fun _ H => run S (.iad 1 (.c (e28 0)) (.c t41_32)) [] H fun t52_39 H => run S (.st (.c t52_39) (.c t50_37)) []
  H fun _ H => Q29 .normal (upd (upd (upd (upd (upd (upd (upd (upd (upd (upd (upd (upd (upd (upd (upd (upd e28 37 (e28 0)) 38 (e28 9)) 39 (e28 0)) 40 (e28 9)) 41 t41_32)
  42 (e28 0)) 43 (e28 9)) 44 t44_33) 45 t45_34) 46 t46_35) 47 (e28 0)) 48 (e28 9)) 49 t49_36) 50 t50_37) 51 t51_38) 52 t52_39) H) Q) fun Q27 => cnd t34_26 (fun Q40 =>
  Q40 .normal (upd (upd (upd (upd (upd (upd (upd (upd (upd (upd (upd (upd (upd (upd (upd (upd (upd e 18 (e 9)) 19 (e 1)) 20 t20_13) 21 t20_13) 22 t22_14) 23 t23_15) 24
  t24_16) 25 t25_17) 26 t26_18) 27 t27_19) 28 t28_20) 29 t29_21) 30 t30_22) 31 t31_23) 32 t32_24) 33 t33_25) 34 t34_26) H) (fun Q41 => Q41 (.exit 2) (upd (upd (upd (upd
  (upd (upd (upd (upd (upd (upd (upd (upd (upd (upd (upd (upd (upd e 18 (e 9)) 19 (e 1)) 20 t20_13) 21 t20_13) 22 t22_14) 23 t23_15) 24 t24_16) 25 t25_17) 26 t26_18) 27
  t27_19) 28 t28_20) 29 t29_21) 30 t30_22) 31 t31_23) 32 t32_24) 33 t33_25) 34 t34_26) H) Q27
theorem h143_1 (S : Sys) (e : Fe) (H : Heap) (Q : Kx) : wpC S b143_1 e H Q = s143_1 S e H Q := by kernel_rfl
theorem l143_1 (S : Sys) {Q : Kx} (I : Nat → Fe → Heap → Prop) (d : Nat) {e0 : Fe} {H : Heap} (h0 : I d e0 H) (hr : ∀ (d : Nat) (e : Fe) (H : Heap), I d e H → s143_1 S e
  H (sq (fun e' H' => ∃ d', d' < d ∧ I d' e' H') Q)) : WL S b143_1 e0 H Q := WL_inv I d h0 fun d e H hi => (h143_1 S e H _).mpr (hr d e H hi)
theorem u143_1 (S : Sys) {Q : Kx} {e : Fe} {H : Heap} (h : s143_1 S e H (sq (fun e' H' => WL S b143_1 e' H' Q) Q)) : WL S b143_1 e H Q := WL_once ((h143_1 S e H _).mpr h)
def b143_0 : KCode := (.seq (.seq (.reg [(.op (some 12) none (.mv (.t 8))), (.op (some 13) none (.mv (.t 2))), (.op (some 14) none (.bin .lss (.t 12) (.t 13)))]) (.cond
  (.t 14) .skip (.exit 0))) (.seq (.block 1 (.seq (.reg [(.op (some 17) none (.mv (.t 8))), (.op (some 9) none (.mv (.t 17)))]) (.block 2 (.loop (.seq (.seq (.reg [(.op
  (some 18) none (.mv (.t 9))), (.op (some 19) none (.mv (.t 1))), (.op (some 20) none (.bin .gtr (.t 18) (.t 19))), (.op (some 21) none (.mv (.t 20))), (.op (some 22)
  (some (21, true)) (.mv (.t 3))), (.op (some 23) (some (21, true)) (.mv (.t 0))), (.op (some 24) (some (21, true)) (.mv (.t 9))), (.op (some 25) (some (21, true)) (.iad
  1 (.t 23) (.t 24))), (.op (some 26) (some (21, true)) (.ld (.t 25))), (.op (some 27) (some (21, true)) (.mv (.t 0))), (.op (some 28) (some (21, true)) (.mv (.t 9))),
  (.op (some 29) (some (21, true)) (.bin .sub (.t 28) (.c (.int .i64 1)))), (.op (some 30) (some (21, true)) (.iad 1 (.t 27) (.t 29))), (.op (some 31) (some (21, true))
  (.ld (.t 30))), (.op (some 32) (some (21, true)) (.callv (.t 22) [(.t 26), (.t 31)])), (.op (some 33) (some (21, true)) (.bin .lss (.t 32) (.c (.int .i64 0)))), (.op
  (some 34) none (.pick (.t 21) (.t 33) (.c (.bool false))))]) (.cond (.t 34) .skip (.exit 2))) (.seq (.block 3 (.reg [(.op (some 37) none (.mv (.t 0))), (.op (some 38)
  none (.mv (.t 9))), (.op (some 39) none (.mv (.t 0))), (.op (some 40) none (.mv (.t 9))), (.op (some 41) none (.bin .sub (.t 40) (.c (.int .i64 1)))), (.op (some 42)
  none (.mv (.t 0))), (.op (some 43) none (.mv (.t 9))), (.op (some 44) none (.bin .sub (.t 43) (.c (.int .i64 1)))), (.op (some 45) none (.iad 1 (.t 42) (.t 44))), (.op
  (some 46) none (.ld (.t 45))), (.op (some 47) none (.mv (.t 0))), (.op (some 48) none (.mv (.t 9))), (.op (some 49) none (.iad 1 (.t 47) (.t 48))), (.op (some 50) none
  (.ld (.t 49))), (.op (some 51) none (.iad 1 (.t 37) (.t 38))), (.op none none (.st (.t 51) (.t 46))), (.op (some 52) none (.iad 1 (.t 39) (.t 41))), (.op none none
  (.st (.t 52) (.t 50)))])) (.reg [(.op (some 35) none (.mv (.t 9))), (.op (some 36) none (.bin .sub (.t 35) (.c (.int .i64 1)))), (.op (some 9) none (.mv (.t
  36)))]))))))) (.reg [(.op (some 15) none (.mv (.t 8))), (.op (some 16) none (.bin .add (.t 15) (.c (.int .i64 1)))), (.op (some 8) none (.mv (.t 16)))])))
def s143_0 (S : Sys) (e : Fe) (H : Heap) (Q : Kx) : Prop := run S (.bin .lss (.c (e 8)) (.c (e 2))) [] H fun t14_3 H => jn (sq (fun e5 H => jn (sq (fun e7 H => run S
  (.bin .add (.c (e7 8)) (.c (.int .i64 1))) [] H fun t16_8 H => Q .normal (upd (upd (upd e7 15 (e7 8)) 16 t16_8) 8 t16_8) H) Q) fun Q6 => jn (blk 1 Q6) fun Q9 => jn
  (blk 2 Q9) fun Q10 => WL S b143_1 (upd (upd e5 17 (e5 8)) 9 (e5 8)) H Q10) Q) fun Q4 => cnd t14_3 (fun Q11 => Q11 .normal (upd (upd (upd e 12 (e 8)) 13 (e 2)) 14
  t14_3) H) (fun Q12 => Q12 (.exit 0) (upd (upd (upd e 12 (e 8)) 13 (e 2)) 14 t14_3) H) Q4
theorem h143_0 (S : Sys) (e : Fe) (H : Heap) (Q : Kx) : wpC S b143_0 e H Q = s143_0 S e H Q := by kernel_rfl
theorem l143_0 (S : Sys) {Q : Kx} (I : Nat → Fe → Heap → Prop) (d : Nat) {e0 : Fe} {H : Heap} (h0 : I d e0 H) (hr : ∀ (d : Nat) (e : Fe) (H : Heap), I d e H → s143_0 S e
  H (sq (fun e' H' => ∃ d', d' < d ∧ I d' e' H') Q)) : WL S b143_0 e0 H Q := WL_inv I d h0 fun d e H hi => (h143_0 S e H _).mpr (hr d e H hi)
theorem u143_0 (S : Sys) {Q : Kx} {e : Fe} {H : Heap} (h : s143_0 S e H (sq (fun e' H' => WL S b143_0 e' H' Q) Q)) : WL S b143_0 e H Q := WL_once ((h143_0 S e H _).mpr h)
def s143 (S : Sys) (a0 a1 a2 a3 : Value) (H : Heap) (R : Kv) : Prop := run S (.bin .add (.c a1) (.c (.int .i64 1))) [] H fun t11_1 H => jn (blk 0 (fn [] R)) fun Q2 => WL
  S b143_0 (upd (upd (upd (Env.get [a0, a1, a2, a3]) 10 a1) 11 t11_1) 8 t11_1) H Q2
theorem h143 (S : Sys) (a0 a1 a2 a3 : Value) (H : Heap) (R : Kv) : wpC S k143.body (Env.get [a0, a1, a2, a3]) H (fn [] R) = s143 S a0 a1 a2 a3 H R := by kernel_rfl
theorem w143 {S : Sys} (hR : S.R 143 = none) (hF : S.F 143 = some k143) (a0 a1 a2 a3 : Value) {H : Heap} {R : Kv} (h : s143 S a0 a1 a2 a3 H R) : Wf S 143 [a0, a1, a2,
  a3] H R := Wf_sh hR hF ((h143 S a0 a1 a2 a3 H R).mpr h)
def b144_4 : KCode := (.seq (.seq (.reg [(.op (some 31) none (.mv (.t 10))), (.op (some 32) none (.mv (.t 11))), (.op (some 33) none (.bin .lss (.t 31) (.t 32)))])
  (.cond (.t 33) .skip (.exit 0))) (.block 1 (.seq (.reg [(.op (some 34) none (.mv (.t 10))), (.op (some 35) none (.mv (.t 11))), (.op (some 36) none (.bin .add (.t 34)
  (.t 35))), (.op (some 37) none (.cvt .u64 (.t 36))), (.op (some 38) none (.bin .shr (.t 37) (.c (.int .u64 1)))), (.op (some 39) none (.cvt .i64 (.t 38))), (.op (some
  12) none (.mv (.t 39)))]) (.seq (.reg [(.op (some 40) none (.mv (.t 4))), (.op (some 41) none (.mv (.t 0))), (.op (some 42) none (.mv (.t 12))), (.op (some 43) none
  (.iad 1 (.t 41) (.t 42))), (.op (some 44) none (.ld (.t 43))), (.op (some 45) none (.mv (.t 0))), (.op (some 46) none (.mv (.t 1))), (.op (some 47) none (.iad 1 (.t
  45) (.t 46))), (.op (some 48) none (.ld (.t 47))), (.op (some 49) none (.callv (.t 40) [(.t 44), (.t 48)])), (.op (some 50) none (.bin .lss (.t 49) (.c (.int .i64
  0))))]) (.cond (.t 50) (.reg [(.op (some 51) none (.mv (.t 12))), (.op (some 52) none (.bin .add (.t 51) (.c (.int .i64 1)))), (.op (some 10) none (.mv (.t 52)))])
  (.reg [(.op (some 53) none (.mv (.t 12))), (.op (some 11) none (.mv (.t 53)))]))))))
def s144_4 (S : Sys) (e : Fe) (H : Heap) (Q : Kx) : Prop := run S (.bin .lss (.c (e 10)) (.c (e 11))) [] H fun t33_143 H => jn (sq (fun e145 H => run S (.bin .add (.c
  (e145 10)) (.c (e145 11))) [] H fun t36_146 H => run S (.cvt .u64 (.c t36_146)) [] H fun t37_147 H => run S (.bin .shr (.c t37_147) (.c (.int .u64 1))) [] H fun
  t38_148 H => run S (.cvt .i64 (.c t38_148)) [] H fun t39_149 H => run S (.iad 1 (.c (e145 0)) (.c t39_149)) [] H fun t43_150 H => run S (.ld (.c t43_150)) [] H fun
  t44_151 H => run S (.iad 1 (.c (e145 0)) (.c (e145 1))) [] H fun t47_152 H => run S (.ld (.c t47_152)) [] H fun t48_153 H => run S (.callv (.c (e145 4)) [(.c t44_151),
  (.c t48_153)]) [] H fun t49_154 H => run S (.bin .lss (.c t49_154) (.c (.int .i64 0))) [] H fun t50_155 H => jn (blk 1 Q) fun Q156 => cnd t50_155 (fun Q157 => run S
  (.bin .add (.c t39_149) (.c (.int .i64 1))) [] H fun t52_159 H => Q157 .normal (upd (upd (upd (upd (upd (upd (upd (upd (upd (upd (upd (upd (upd (upd (upd (upd (upd
  (upd (upd (upd (upd e145 34 (e145 10)) 35 (e145 11)) 36 t36_146) 37 t37_147) 38 t38_148) 39 t39_149) 12 t39_149) 40 (e145 4)) 41 (e145 0)) 42 t39_149) 43 t43_150) 44
  t44_151) 45 (e145 0)) 46 (e145 1)) 47 t47_152) 48 t48_153) 49 t49_154) 50 t50_155) 51 t39_149) 52 t52_159) 10 t52_159) H) (fun Q158 => Q158 .normal (upd (upd (upd (upd
  (upd (upd (upd (upd (upd (upd (upd (upd (upd (upd (upd (upd (upd (upd (upd (upd e145 34 (e145 10)) 35 (e145 11)) 36 t36_146) 37 t37_147) 38 t38_148) 39 t39_149) 12
  t39_149) 40 (e145 4)) 41 (e145 0)) 42 t39_149) 43 t43_150) 44 t44_151) 45 (e145 0)) 46 (e145 1)) 47 t47_152) 48 t48_153) 49 t49_154) 50 t50_155) 53 t39_149) 11
  t39_149) H) Q156) Q) fun Q144 => cnd t33_143 (fun Q160 => Q160 .normal (upd (upd (upd e 31 (e 10)) 32 (e 11)) 33 t33_143) H) (fun Q161 => Q161 (.exit 0) (upd (upd (upd
  e 31 (e 10)) 32 (e 11)) 33 t33_143) H) Q144
theorem h144_4 (S : Sys) (e : Fe) (H : Heap) (Q : Kx) : wpC S b144_4 e H Q = s144_4 S e H Q := by kernel_rfl
theorem l144_4 (S : Sys) {Q : Kx} (I : Nat → Fe → Heap → Prop) (d : Nat) {e0 : Fe} {H : Heap} (h0 : I d e0 H) (hr : ∀ (d : Nat) (e : Fe) (H : Heap), I d e H → s144_4 S e
  H (sq (fun e' H' => ∃ d', d' < d ∧ I d' e' H') Q)) : WL S b144_4 e0 H Q := WL_inv I d h0 fun d e H hi => (h144_4 S e H _).mpr (hr d e H hi)
theorem u144_4 (S : Sys) {Q : Kx} {e : Fe} {H : Heap} (h : s144_4 S e H (sq (fun e' H' => WL S b144_4 e' H' Q) Q)) : WL S b144_4 e H Q := WL_once ((h144_4 S e H _).mpr h)
def b144_3 : KCode := (.seq (.seq (.reg [(.op (some 55) none (.mv (.t 13))), (.op (some 56) none (.mv (.t 10))), (.op (some 57) none (.bin .sub (.t 56) (.c (.int .i64
  1)))), (.op (some 58) none (.bin .lss (.t 55) (.t 57)))]) (.cond (.t 58) .skip (.exit 2))) (.seq (.block 3 (.reg [(.op (some 61) none (.mv (.t 0))), (.op (some 62)
  none (.mv (.t 13))), (.op (some 63) none (.mv (.t 0))), (.op (some 64) none (.mv (.t 13))), (.op (some 65) none (.bin .add (.t 64) (.c (.int .i64 1)))), (.op (some 66)
  none (.mv (.t 0))), (.op (some 67) none (.mv (.t 13))), (.op (some 68) none (.bin .add (.t 67) (.c (.int .i64 1)))), (.op (some 69) none (.iad 1 (.t 66) (.t 68))),
  (.op (some 70) none (.ld (.t 69))), (.op (some 71) none (.mv (.t 0))), (.op (some 72) none (.mv (.t 13))), (.op (some 73) none (.iad 1 (.t 71) (.t 72))), (.op (some
  74) none (.ld (.t 73))), (.op (some 75) none (.iad 1 (.t 61) (.t 62))), (.op none none (.st (.t 75) (.t 70))), (.op (some 76) none (.iad 1 (.t 63) (.t 65))), (.op none
  none (.st (.t 76) (.t 74)))])) (.reg [(.op (some 59) none (.mv (.t 13))), (.op (some 60) none (.bin .add (.t 59) (.c (.int .i64 1)))), (.op (some 13) none (.mv (.t
  60)))])))
def s144_3 (S : Sys) (e : Fe) (H : Heap) (Q : Kx) : Prop := run S (.bin .sub (.c (e 10)) (.c (.int .i64 1))) [] H fun t57_126 H => run S (.bin .lss (.c (e 13)) (.c
  t57_126)) [] H fun t58_127 H => jn (sq (fun e129 H => jn (sq (fun e131 H => run S (.bin .add (.c (e131 13)) (.c (.int .i64 1))) [] H fun t60_132 H => Q .normal (upd
  (upd (upd e131 59 (e131 13)) 60 t60_132) 13 t60_132) H) Q) fun Q130 => run S (.bin .add (.c (e129 13)) (.c (.int .i64 1))) [] H fun t65_133 H => run S (.bin .add (.c
  (e129 13)) (.c (.int .i64 1))) [] H fun t68_134 H => run S (.iad 1 (.c (e129 0)) (.c t68_134)) [] H fun t69_135 H => run S (.ld (.c t69_135)) [] H fun t70_136 H => run
  S (.iad 1 (.c (e129 0)) (.c (e129 13))) [] H fun t73_137 H => run S (.ld (.c t73_137)) [] H fun t74_138 H => run S (.iad 1 (.c (e129 0)) (.c (e129 13))) [] H fun
  t75_139 H => run S (.st (.c t75_139) (.c t70_136)) [] H fun _ H => run S (.iad 1 (.c (e129 0)) (.c t65_133)) [] H fun t76_140 H => run S (.st (.c t76_140) (.c
  t74_138)) [] H fun _ H => Q130 .normal (upd (upd (upd (upd (upd (upd (upd (upd (upd (upd (upd (upd (upd (upd (upd (upd e129 61 (e129 0)) 62 (e129 13)) 63 (e129 0)) 64
  (e129 13)) 65 t65_133) 66 (e129 0)) 67 (e129 13)) 68 t68_134) 69 t69_135) 70 t70_136) 71 (e129 0)) 72 (e129 13)) 73 t73_137) 74 t74_138) 75 t75_139) 76 t76_140) H) Q)
  fun Q128 => cnd t58_127 (fun Q141 => Q141 .normal (upd (upd (upd (upd e 55 (e 13)) 56 (e 10)) 57 t57_126) 58 t58_127) H) (fun Q142 => Q142 (.exit 2) (upd (upd (upd
  (upd e 55 (e 13)) 56 (e 10)) 57 t57_126) 58 t58_127) H) Q128
theorem h144_3 (S : Sys) (e : Fe) (H : Heap) (Q : Kx) : wpC S b144_3 e H Q = s144_3 S e H Q := by kernel_rfl
theorem l144_3 (S : Sys) {Q : Kx} (I : Nat → Fe → Heap → Prop) (d : Nat) {e0 : Fe} {H : Heap} (h0 : I d e0 H) (hr : ∀ (d : Nat) (e : Fe) (H : Heap), I d e H → s144_3 S e
  H (sq (fun e' H' => ∃ d', d' < d ∧ I d' e' H') Q)) : WL S b144_3 e0 H Q := WL_inv I d h0 fun d e H hi => (h144_3 S e H _).mpr (hr d e H hi)
theorem u144_3 (S : Sys) {Q : Kx} {e : Fe} {H : Heap} (h : s144_3 S e H (sq (fun e' H' => WL S b144_3 e' H' Q) Q)) : WL S b144_3 e H Q := WL_once ((h144_3 S e H _).mpr h)
def b144_2 : KCode := (.seq (.seq (.reg [(.op (some 83) none (.mv (.t 14))), (.op (some 84) none (.mv (.t 15))), (.op (some 85) none (.bin .lss (.t 83) (.t 84)))])
  (.cond (.t 85) .skip (.exit 4))) (.block 5 (.seq (.reg [(.op (some 86) none (.mv (.t 14))), (.op (some 87) none (.mv (.t 15))), (.op (some 88) none (.bin .add (.t 86)
  (.t 87))), (.op (some 89) none (.cvt .u64 (.t 88))), (.op (some 90) none (.bin .shr (.t 89) (.c (.int .u64 1)))), (.op (some 91) none (.cvt .i64 (.t 90))), (.op (some
  16) none (.mv (.t 91)))]) (.seq (.reg [(.op (some 92) none (.mv (.t 4))), (.op (some 93) none (.mv (.t 0))), (.op (some 94) none (.mv (.t 2))), (.op (some 95) none
  (.iad 1 (.t 93) (.t 94))), (.op (some 96) none (.ld (.t 95))), (.op (some 97) none (.mv (.t 0))), (.op (some 98) none (.mv (.t 16))), (.op (some 99) none (.iad 1 (.t
  97) (.t 98))), (.op (some 100) none (.ld (.t 99))), (.op (some 101) none (.callv (.t 92) [(.t 96), (.t 100)])), (.op (some 102) none (.bin .lss (.t 101) (.c (.int .i64
  0)))), (.op (some 103) none (.un .not (.t 102)))]) (.cond (.t 103) (.reg [(.op (some 104) none (.mv (.t 16))), (.op (some 105) none (.bin .add (.t 104) (.c (.int .i64
  1)))), (.op (some 14) none (.mv (.t 105)))]) (.reg [(.op (some 106) none (.mv (.t 16))), (.op (some 15) none (.mv (.t 106)))]))))))
def s144_2 (S : Sys) (e : Fe) (H : Heap) (Q : Kx) : Prop := run S (.bin .lss (.c (e 14)) (.c (e 15))) [] H fun t85_106 H => jn (sq (fun e108 H => run S (.bin .add (.c
  (e108 14)) (.c (e108 15))) [] H fun t88_109 H => run S (.cvt .u64 (.c t88_109)) [] H fun t89_110 H => run S (.bin .shr (.c t89_110) (.c (.int .u64 1))) [] H fun
  t90_111 H => run S (.cvt .i64 (.c t90_111)) [] H fun t91_112 H => run S (.iad 1 (.c (e108 0)) (.c (e108 2))) [] H fun t95_113 H => run S (.ld (.c t95_113)) [] H fun
  t96_114 H => run S (.iad 1 (.c (e108 0)) (.c t91_112)) [] H fun t99_115 H => run S (.ld (.c t99_115)) [] H fun t100_116 H => run S (.callv (.c (e108 4)) [(.c t96_114),
  (.c t100_116)]) [] H fun t101_117 H => run S (.bin .lss (.c t101_117) (.c (.int .i64 0))) [] H fun t102_118 H => run S (.un .not (.c t102_118)) [] H fun t103_119 H =>
  jn (blk 5 Q) fun Q120 => cnd t103_119 (fun Q121 => run S (.bin .add (.c t91_112) (.c (.int .i64 1))) [] H fun t105_123 H => Q121 .normal (upd (upd (upd (upd (upd (upd
  (upd (upd (upd (upd (upd (upd (upd (upd (upd (upd (upd (upd (upd (upd (upd (upd e108 86 (e108 14)) 87 (e108 15)) 88 t88_109) 89 t89_110) 90 t90_111) 91 t91_112) 16
  t91_112) 92 (e108 4)) 93 (e108 0)) 94 (e108 2)) 95 t95_113) 96 t96_114) 97 (e108 0)) 98 t91_112) 99 t99_115) 100 t100_116) 101 t101_117) 102 t102_118) 103 t103_119)
  104 t91_112) 105 t105_123) 14 t105_123) H) (fun Q122 => Q122 .normal (upd (upd (upd (upd (upd (upd (upd (upd (upd (upd (upd (upd (upd (upd (upd (upd (upd (upd (upd
  (upd (upd e108 86 (e108 14)) 87 (e108 15)) 88 t88_109) 89 t89_110) 90 t90_111) 91 t91_112) 16 t91_112) 92 (e108 4)) 93 (e108 0)) 94 (e108 2)) 95 t95_113) 96 t96_114)
  97 (e108 0)) 98 t91_112) 99 t99_115) 100 t100_116) 101 t101_117) 102 t102_118) 103 t103_119) 106 t91_112) 15 t91_112) H) Q120) Q) fun Q107 => cnd t85_106 (fun Q124 =>
  Q124 .normal (upd (upd (upd e 83 (e 14)) 84 (e 15)) 85 t85_106) H) (fun Q125 => Q125 (.exit 4) (upd (upd (upd e 83 (e 14)) 84 (e 15)) 85 t85_106) H) Q107
theorem h144_2 (S : Sys) (e : Fe) (H : Heap) (Q : Kx) : wpC S b144_2 e H Q = s144_2 S e H Q := by kernel_rfl
theorem l144_2 (S : Sys) {Q : Kx} (I : Nat → Fe → Heap → Prop) (d : Nat) {e0 : Fe} {H : Heap} (h0 : I d e0 H) (hr : ∀ (d : Nat) (e : Fe) (H : Heap), I d e H → s144_2 S e
  H (sq (fun e' H' => ∃ d', d' < d ∧ I d' e' H') Q)) : WL S b144_2 e0 H Q := WL_inv I d h0 fun d e H hi => (h144_2 S e H _).mpr (hr d e H hi)
theorem u144_2 (S : Sys) {Q : Kx} {e : Fe} {H : Heap} (h : s144_2 S e H (sq (fun e' H' => WL S b144_2 e' H' Q) Q)) : WL S b144_2 e H Q := WL_once ((h144_2 S e H _).mpr h)
def b144_1 : KCode := (.seq (.seq (.reg [(.op (some 108) none (.mv (.t 17))), (.op (some 109) none (.mv (.t 14))), (.op (some 110) none (.bin .gtr (.t 108) (.t 109)))])
  (.cond (.t 110) .skip (.exit 6))) (.seq (.block 7 (.reg [(.op (some 113) none (.mv (.t 0))), (.op (some 114) none (.mv (.t 17))), (.op (some 115) none (.mv (.t 0))),
  (.op (some 116) none (.mv (.t 17))), (.op (some 117) none (.bin .sub (.t 116) (.c (.int .i64 1)))), (.op (some 118) none (.mv (.t 0))), (.op (some 119) none (.mv (.t
  17))), (.op (some 120) none (.bin .sub (.t 119) (.c (.int .i64 1)))), (.op (some 121) none (.iad 1 (.t 118) (.t 120))), (.op (some 122) none (.ld (.t 121))), (.op
  (some 123) none (.mv (.t 0))), (.op (some 124) none (.mv (.t 17))), (.op (some 125) none (.iad 1 (.t 123) (.t 124))), (.op (some 126) none (.ld (.t 125))), (.op (some
  127) none (.iad 1 (.t 113) (.t 114))), (.op none none (.st (.t 127) (.t 122))), (.op (some 128) none (.iad 1 (.t 115) (.t 117))), (.op none none (.st (.t 128) (.t
  126)))])) (.reg [(.op (some 111) none (.mv (.t 17))), (.op (some 112) none (.bin .sub (.t 111) (.c (.int .i64 1)))), (.op (some 17) none (.mv (.t 112)))])))
def s144_1 (S : Sys) (e : Fe) (H : Heap) (Q : Kx) : Prop := run S (.bin .gtr (.c (e 17)) (.c (e 14))) [] H fun t110_90 H => jn (sq (fun e92 H => jn (sq (fun e94 H => run
  S (.bin .sub (.c (e94 17)) (.c (.int .i64 1))) [] H fun t112_95 H => Q .normal (upd (upd (upd e94 111 (e94 17)) 112 t112_95) 17 t112_95) H) Q) fun Q93 => run S (.bin
  .sub (.c (e92 17)) (.c (.int .i64 1))) [] H fun t117_96 H => run S (.bin .sub (.c (e92 17)) (.c (.int .i64 1))) [] H fun t120_97 H => run S (.iad 1 (.c (e92 0)) (.c
  t120_97)) [] H fun t121_98 H => run S (.ld (.c t121_98)) [] H fun t122_99 H => run S (.iad 1 (.c (e92 0)) (.c (e92 17))) [] H fun t125_100 H => run S (.ld (.c
  t125_100)) [] H fun t126_101 H => run S (.iad 1 (.c (e92 0)) (.c (e92 17))) [] H fun t127_102 H => run S (.st (.c t127_102) (.c t122_99)) [] H fun _ H => run S (.iad 1
  (.c (e92 0)) (.c t117_96)) [] H fun t128_103 H => run S (.st (.c t128_103) (.c t126_101)) [] H fun _ H => Q93 .normal (upd (upd (upd (upd (upd (upd (upd (upd (upd (upd
  (upd (upd (upd (upd (upd (upd e92 113 (e92 0)) 114 (e92 17)) 115 (e92 0)) 116 (e92 17)) 117 t117_96) 118 (e92 0)) 119 (e92 17)) 120 t120_97) 121 t121_98) 122 t122_99)
  123 (e92 0)) 124 (e92 17)) 125 t125_100) 126 t126_101) 127 t127_102) 128 t128_103) H) Q) fun Q91 => cnd t110_90 (fun Q104 => Q104 .normal (upd (upd (upd e 108 (e 17))
  109 (e 14)) 110 t110_90) H) (fun Q105 => Q105 (.exit 6) (upd (upd (upd e 108 (e 17)) 109 (e 14)) 110 t110_90) H) Q91
theorem h144_1 (S : Sys) (e : Fe) (H : Heap) (Q : Kx) : wpC S b144_1 e H Q = s144_1 S e H Q := by kernel_rfl
theorem l144_1 (S : Sys) {Q : Kx} (I : Nat → Fe → Heap → Prop) (d : Nat) {e0 : Fe} {H : Heap} (h0 : I d e0 H) (hr : ∀ (d : Nat) (e : Fe) (H : Heap), I d e H → s144_1 S e
  H (sq (fun e' H' => ∃ d', d' < d ∧ I d' e' H') Q)) : WL S b144_1 e0 H Q := WL_inv I d h0 fun d e H hi => (h144_1 S e H _).mpr (hr d e H hi)
theorem u144_1 (S : Sys) {Q : Kx} {e : Fe} {H : Heap} (h : s144_1 S e H (sq (fun e' H' => WL S b144_1 e' H' Q) Q)) : WL S b144_1 e H Q := WL_once ((h144_1 S e H _).mpr h)
def b144_0 : KCode := (.seq (.seq (.reg [(.op (some 149) none (.mv (.t 20))), (.op (some 150) none (.mv (.t 21))), (.op (some 151) none (.bin .lss (.t 149) (.t 150)))])
  (.cond (.t 151) .skip (.exit 8))) (.block 9 (.seq (.reg [(.op (some 152) none (.mv (.t 20))), (.op (some 153) none (.mv (.t 21))), (.op (some 154) none (.bin .add (.t
  152) (.t 153))), (.op (some 155) none (.cvt .u64 (.t 154))), (.op (some 156) none (.bin .shr (.t 155) (.c (.int .u64 1)))), (.op (some 157) none (.cvt .i64 (.t 156))),
  (.op (some 23) none (.mv (.t 157)))]) (.seq (.reg [(.op (some 158) none (.mv (.t 4))), (.op (some 159) none (.mv (.t 0))), (.op (some 160) none (.mv (.t 22))), (.op
  (some 161) none (.mv (.t 23))), (.op (some 162) none (.bin .sub (.t 160) (.t 161))), (.op (some 163) none (.iad 1 (.t 159) (.t 162))), (.op (some 164) none (.ld (.t
  163))), (.op (some 165) none (.mv (.t 0))), (.op (some 166) none (.mv (.t 23))), (.op (some 167) none (.iad 1 (.t 165) (.t 166))), (.op (some 168) none (.ld (.t
  167))), (.op (some 169) none (.callv (.t 158) [(.t 164), (.t 168)])), (.op (some 170) none (.bin .lss (.t 169) (.c (.int .i64 0)))), (.op (some 171) none (.un .not (.t
  170)))]) (.cond (.t 171) (.reg [(.op (some 172) none (.mv (.t 23))), (.op (some 173) none (.bin .add (.t 172) (.c (.int .i64 1)))), (.op (some 20) none (.mv (.t
  173)))]) (.reg [(.op (some 174) none (.mv (.t 23))), (.op (some 21) none (.mv (.t 174)))]))))))
def s144_0 (S : Sys) (e : Fe) (H : Heap) (Q : Kx) : Prop := run S (.bin .lss (.c (e 20)) (.c (e 21))) [] H fun t151_69 H => jn (sq (fun e71 H => run S (.bin .add (.c
  (e71 20)) (.c (e71 21))) [] H fun t154_72 H => run S (.cvt .u64 (.c t154_72)) [] H fun t155_73 H => run S (.bin .shr (.c t155_73) (.c (.int .u64 1))) [] H fun t156_74
  H => run S (.cvt .i64 (.c t156_74)) [] H fun t157_75 H => run S (.bin .sub (.c (e71 22)) (.c t157_75)) [] H fun t162_76 H => run S (.iad 1 (.c (e71 0)) (.c t162_76))
  [] H fun t163_77 H => run S (.ld (.c t163_77)) [] H fun t164_78 H => run S (.iad 1 (.c (e71 0)) (.c t157_75)) [] H fun t167_79 H => run S (.ld (.c t167_79)) [] H fun
  t168_80 H => run S (.callv (.c (e71 4)) [(.c t164_78), (.c t168_80)]) [] H fun t169_81 H => run S (.bin .lss (.c t169_81) (.c (.int .i64 0))) [] H fun t170_82 H => run
  S (.un .not (.c t170_82)) [] H fun t171_83 H => jn (blk 9 Q) fun Q84 => cnd t171_83 (fun Q85 => run S (.bin .add (.c t157_75) (.c (.int .i64 1))) [] H fun t173_87 H =>
  Q85 .normal (upd (upd (upd (upd (upd (upd (upd (upd (upd (upd (upd (upd (upd (upd (upd (upd (upd (upd (upd (upd (upd (upd (upd (upd e71 152 (e71 20)) 153 (e71 21)) 154
  t154_72) 155 t155_73) 156 t156_74) 157 t157_75) 23 t157_75) 158 (e71 4)) 159 (e71 0)) 160 (e71 22)) 161 t157_75) 162 t162_76) 163 t163_77) 164 t164_78) 165 (e71 0))
  166 t157_75) 167 t167_79) 168 t168_80) 169 t169_81) 170 t170_82) 171 t171_83) 172 t157_75) 173 t173_87) 20 t173_87) H) (fun Q86 => Q86 .normal (upd (upd (upd (upd (upd
  (upd (upd (upd (upd (upd (upd (upd (upd (upd (upd (upd (upd (upd (upd (upd (upd (upd (upd e71 152 (e71 20)) 153 (e71 21)) 154 t154_72) 155 t155_73) 156 t156_74) 157
  t157_75) 23 t157_75) 158 (e71 4)) 159 (e71 0)) 160 (e71 22)) 161 t157_75) 162 t162_76) 163 t163_77) 164 t164_78) 165 (e71 0)) 166 t157_75) 167 t167_79) 168 t168_80)
  169 t169_81) 170 t170_82) 171 t171_83) 174 t157_75) 21 t157_75) H) Q84) Q) fun Q70 => cnd t151_69 (fun Q88 => Q88 .normal (upd (upd (upd e 149 (e 20)) 150 (e 21)) 151
  t151_69) H) (fun Q89 => Q89 (.exit 8) (upd (upd (upd e 149 (e 20)) 150 (e 21)) 151 t151_69) H) Q70
theorem h144_0 (S : Sys) (e : Fe) (H : Heap) (Q : Kx) : wpC S b144_0 e H Q = s144_0 S e H Q := by kernel_rfl
theorem l144_0 (S : Sys) {Q : Kx} (I : Nat → Fe → Heap → Prop) (d : Nat) {e0 : Fe} {H : Heap} (h0 : I d e0 H) (hr : ∀ (d : Nat) (e : Fe) (H : Heap), I d e H → s144_0 S e
  H (sq (fun e' H' => ∃ d', d' < d ∧ I d' e' H') Q)) : WL S b144_0 e0 H Q := WL_inv I d h0 fun d e H hi => (h144_0 S e H _).mpr (hr d e H hi)
theorem u144_0 (S : Sys) {Q : Kx} {e : Fe} {H : Heap} (h : s144_0 S e H (sq (fun e' H' => WL S b144_0 e' H' Q) Q)) : WL S b144_0 e H Q := WL_once ((h144_0 S e H _).mpr h)
def s144 (S : Sys) (a0 a1 a2 a3 a4 : Value) (H : Heap) (R : Kv) : Prop := run S (.bin .sub (.c a2) (.c a1)) [] H fun t27_1 H => run S (.bin .eql (.c t27_1) (.c (.int
  .i64 1))) [] H fun t28_2 H => jn (sq (fun e4 H => run S (.bin .sub (.c (e4 3)) (.c (e4 2))) [] H fun t79_5 H => run S (.bin .eql (.c t79_5) (.c (.int .i64 1))) [] H
  fun t80_6 H => jn (sq (fun e8 H => run S (.bin .add (.c (e8 1)) (.c (e8 3))) [] H fun t131_9 H => run S (.cvt .u64 (.c t131_9)) [] H fun t132_10 H => run S (.bin .shr
  (.c t132_10) (.c (.int .u64 1))) [] H fun t133_11 H => run S (.cvt .i64 (.c t133_11)) [] H fun t134_12 H => run S (.bin .add (.c t134_12) (.c (e8 2))) [] H fun t137_13
  H => run S (.bin .gtr (.c (e8 2)) (.c t134_12)) [] H fun t140_14 H => jn (sq (fun e16 H => run S (.bin .sub (.c (e16 19)) (.c (.int .i64 1))) [] H fun t148_17 H => jn
  (sq (fun e19 H => run S (.bin .sub (.c (e19 19)) (.c (e19 20))) [] H fun t177_20 H => run S (.bin .lss (.c (e19 20)) (.c (e19 2))) [] H fun t180_21 H => gd t180_21
  true (run S (.mv (.c (e19 2))) [] H) H fun t182_22 H => gd t180_21 true (run S (.mv (.c t177_20)) [] H) H fun t183_23 H => gd t180_21 true (run S (.bin .lss (.c
  t182_22) (.c t183_23)) [] H) H fun t184_24 H => run S (.pick (.c t180_21) (.c t184_24) (.c (.bool false))) [] H fun t185_25 H => jn (sq (fun e27 H => run S (.bin .lss
  (.c (e27 1)) (.c (e27 20))) [] H fun t194_28 H => gd t194_28 true (run S (.mv (.c (e27 20))) [] H) H fun t196_29 H => gd t194_28 true (run S (.mv (.c (e27 18))) [] H)
  H fun t197_30 H => gd t194_28 true (run S (.bin .lss (.c t196_29) (.c t197_30)) [] H) H fun t198_31 H => run S (.pick (.c t194_28) (.c t198_31) (.c (.bool false))) []
  H fun t199_32 H => jn (sq (fun e34 H => run S (.bin .lss (.c (e34 18)) (.c (e34 24))) [] H fun t208_35 H => gd t208_35 true (run S (.mv (.c (e34 24))) [] H) H fun
  t210_36 H => gd t208_35 true (run S (.mv (.c (e34 3))) [] H) H fun t211_37 H => gd t208_35 true (run S (.bin .lss (.c t210_36) (.c t211_37)) [] H) H fun t212_38 H =>
  run S (.pick (.c t208_35) (.c t212_38) (.c (.bool false))) [] H fun t213_39 H => cnd t213_39 (fun Q40 => run S (.call 144 [(.c (e34 0)), (.c (e34 18)), (.c (e34 24)),
  (.c (e34 3)), (.c (e34 4))]) [] H fun t219_42 H => Q40 .normal (upd (upd (upd (upd (upd (upd (upd (upd (upd (upd (upd (upd (upd (upd e34 206 (e34 18)) 207 (e34 24))
  208 t208_35) 209 t208_35) 210 t210_36) 211 t211_37) 212 t212_38) 213 t213_39) 214 (e34 0)) 215 (e34 18)) 216 (e34 24)) 217 (e34 3)) 218 (e34 4)) 219 t219_42) H) (fun
  Q41 => Q41 .normal (upd (upd (upd (upd (upd (upd (upd (upd e34 206 (e34 18)) 207 (e34 24)) 208 t208_35) 209 t208_35) 210 t210_36) 211 t211_37) 212 t212_38) 213
  t213_39) H) (fn [] R)) (fn [] R)) fun Q33 => cnd t199_32 (fun Q43 => run S (.call 144 [(.c (e27 0)), (.c (e27 1)), (.c (e27 20)), (.c (e27 18)), (.c (e27 4))]) [] H
  fun t205_45 H => Q43 .normal (upd (upd (upd (upd (upd (upd (upd (upd (upd (upd (upd (upd (upd (upd e27 192 (e27 1)) 193 (e27 20)) 194 t194_28) 195 t194_28) 196
  t196_29) 197 t197_30) 198 t198_31) 199 t199_32) 200 (e27 0)) 201 (e27 1)) 202 (e27 20)) 203 (e27 18)) 204 (e27 4)) 205 t205_45) H) (fun Q44 => Q44 .normal (upd (upd
  (upd (upd (upd (upd (upd (upd e27 192 (e27 1)) 193 (e27 20)) 194 t194_28) 195 t194_28) 196 t196_29) 197 t197_30) 198 t198_31) 199 t199_32) H) Q33) (fn [] R)) fun Q26
  => cnd t185_25 (fun Q46 => run S (.call 145 [(.c (e19 0)), (.c (e19 20)), (.c (e19 2)), (.c t177_20), (.c (e19 4))]) [] H fun t191_48 H => Q46 .normal (upd (upd (upd
  (upd (upd (upd (upd (upd (upd (upd (upd (upd (upd (upd (upd (upd (upd (upd e19 175 (e19 19)) 176 (e19 20)) 177 t177_20) 24 t177_20) 178 (e19 20)) 179 (e19 2)) 180
  t180_21) 181 t180_21) 182 t182_22) 183 t183_23) 184 t184_24) 185 t185_25) 186 (e19 0)) 187 (e19 20)) 188 (e19 2)) 189 t177_20) 190 (e19 4)) 191 t191_48) H) (fun Q47 =>
  Q47 .normal (upd (upd (upd (upd (upd (upd (upd (upd (upd (upd (upd (upd e19 175 (e19 19)) 176 (e19 20)) 177 t177_20) 24 t177_20) 178 (e19 20)) 179 (e19 2)) 180
  t180_21) 181 t180_21) 182 t182_22) 183 t183_23) 184 t184_24) 185 t185_25) H) Q26) (fn [] R)) fun Q18 => jn (blk 8 Q18) fun Q49 => WL S b144_0 (upd (upd (upd e16 147
  (e16 19)) 148 t148_17) 22 t148_17) H Q49) (fn [] R)) fun Q15 => cnd t140_14 (fun Q50 => run S (.bin .sub (.c t137_13) (.c (e8 3))) [] H fun t143_52 H => Q50 .normal
  (upd (upd (upd (upd (upd (upd (upd (upd (upd (upd (upd (upd (upd (upd (upd (upd (upd (upd (upd (upd (upd (upd e8 129 (e8 1)) 130 (e8 3)) 131 t131_9) 132 t132_10) 133
  t133_11) 134 t134_12) 18 t134_12) 135 t134_12) 136 (e8 2)) 137 t137_13) 19 t137_13) 20 (.int .i64 0)) 21 (.int .i64 0)) 138 (e8 2)) 139 t134_12) 140 t140_14) 141
  t137_13) 142 (e8 3)) 143 t143_52) 20 t143_52) 144 t134_12) 21 t134_12) H) (fun Q51 => Q51 .normal (upd (upd (upd (upd (upd (upd (upd (upd (upd (upd (upd (upd (upd (upd
  (upd (upd (upd (upd (upd (upd e8 129 (e8 1)) 130 (e8 3)) 131 t131_9) 132 t132_10) 133 t133_11) 134 t134_12) 18 t134_12) 135 t134_12) 136 (e8 2)) 137 t137_13) 19
  t137_13) 20 (.int .i64 0)) 21 (.int .i64 0)) 138 (e8 2)) 139 t134_12) 140 t140_14) 145 (e8 1)) 20 (e8 1)) 146 (e8 2)) 21 (e8 2)) H) Q15) (fn [] R)) fun Q7 => cnd t80_6
  (fun Q53 => jn (sq (fun e56 H => jn (sq (fun e58 H => Q53 .ret e58 H) Q53) fun Q57 => jn (blk 6 Q57) fun Q59 => WL S b144_1 (upd (upd e56 107 (e56 2)) 17 (e56 2)) H
  Q59) Q53) fun Q55 => jn (blk 4 Q55) fun Q60 => WL S b144_2 (upd (upd (upd (upd (upd (upd (upd (upd e4 77 (e4 3)) 78 (e4 2)) 79 t79_5) 80 t80_6) 81 (e4 1)) 14 (e4 1))
  82 (e4 2)) 15 (e4 2)) H Q60) (fun Q54 => Q54 .normal (upd (upd (upd (upd e4 77 (e4 3)) 78 (e4 2)) 79 t79_5) 80 t80_6) H) Q7) (fn [] R)) fun Q3 => cnd t28_2 (fun Q61 =>
  jn (sq (fun e64 H => jn (sq (fun e66 H => Q61 .ret e66 H) Q61) fun Q65 => jn (blk 2 Q65) fun Q67 => WL S b144_3 (upd (upd e64 54 (e64 1)) 13 (e64 1)) H Q67) Q61) fun
  Q63 => jn (blk 0 Q63) fun Q68 => WL S b144_4 (upd (upd (upd (upd (upd (upd (upd (upd (Env.get [a0, a1, a2, a3, a4]) 25 a2) 26 a1) 27 t27_1) 28 t28_2) 29 a2) 10 a2) 30
  a3) 11 a3) H Q68) (fun Q62 => Q62 .normal (upd (upd (upd (upd (Env.get [a0, a1, a2, a3, a4]) 25 a2) 26 a1) 27 t27_1) 28 t28_2) H) Q3
theorem h144 (S : Sys) (a0 a1 a2 a3 a4 : Value) (H : Heap) (R : Kv) : wpC S k144.body (Env.get [a0, a1, a2, a3, a4]) H (fn [] R) = s144 S a0 a1 a2 a3 a4 H R := by
  kernel_rfl
theorem w144 {S : Sys} (hR : S.R 144 = none) (hF : S.F 144 = some k144) (a0 a1 a2 a3 a4 : Value) {H : Heap} {R : Kv} (h : s144 S a0 a1 a2 a3 a4 H R) : Wf S 144 [a0, a1,
  a2, a3, a4] H R := Wf_sh hR hF ((h144 S a0 a1 a2 a3 a4 H R).mpr h)
def b145_0 : KCode := (.seq (.seq (.reg [(.op (some 18) none (.mv (.t 10))), (.op (some 19) none (.mv (.t 11))), (.op (some 20) none (.bin .neq (.t 18) (.t 19)))])
  (.cond (.t 20) .skip (.exit 0))) (.block 1 (.seq (.reg [(.op (some 21) none (.mv (.t 10))), (.op (some 22) none (.mv (.t 11))), (.op (some 23) none (.bin .gtr (.t 21)
  (.t 22)))]) (.cond (.t 23) (.seq (.reg [(.op (some 24) none (.mv (.t 0))), (.op (some 25) none (.mv (.t 2))), (.op (some 26) none (.mv (.t 10))), (.op (some 27) none
  (.bin .sub (.t 25) (.t 26))), (.op (some 28) none (.mv (.t 2))), (.op (some 29) none (.mv (.t 11))), (.op (some 30) none (.mv (.t 4))), (.op (some 31) none (.call 146
  [(.t 24), (.t 27), (.t 28), (.t 29), (.t 30)]))]) (.reg [(.op (some 32) none (.mv (.t 10))), (.op (some 33) none (.mv (.t 11))), (.op (some 34) none (.bin .sub (.t 32)
  (.t 33))), (.op (some 10) none (.mv (.t 34)))])) (.seq (.reg [(.op (some 35) none (.mv (.t 0))), (.op (some 36) none (.mv (.t 2))), (.op (some 37) none (.mv (.t 10))),
  (.op (some 38) none (.bin .sub (.t 36) (.t 37))), (.op (some 39) none (.mv (.t 2))), (.op (some 40) none (.mv (.t 11))), (.op (some 41) none (.bin .add (.t 39) (.t
  40))), (.op (some 42) none (.mv (.t 10))), (.op (some 43) none (.bin .sub (.t 41) (.t 42))), (.op (some 44) none (.mv (.t 10))), (.op (some 45) none (.mv (.t 4))),
  (.op (some 46) none (.call 146 [(.t 35), (.t 38), (.t 43), (.t 44), (.t 45)]))]) (.reg [(.op (some 47) none (.mv (.t 11))), (.op (some 48) none (.mv (.t 10))), (.op
  (some 49) none (.bin .sub (.t 47) (.t 48))), (.op (some 11) none (.mv (.t 49)))]))))))
def s145_0 (S : Sys) (e : Fe) (H : Heap) (Q : Kx) : Prop := run S (.bin .neq (.c (e 10)) (.c (e 11))) [] H fun t20_8 H => jn (sq (fun e10 H => run S (.bin .gtr (.c (e10
  10)) (.c (e10 11))) [] H fun t23_11 H => jn (blk 1 Q) fun Q12 => cnd t23_11 (fun Q13 => run S (.bin .sub (.c (e10 2)) (.c (e10 10))) [] H fun t27_15 H => run S (.call
  146 [(.c (e10 0)), (.c t27_15), (.c (e10 2)), (.c (e10 11)), (.c (e10 4))]) [] H fun t31_16 H => run S (.bin .sub (.c (e10 10)) (.c (e10 11))) [] H fun t34_17 H => Q13
  .normal (upd (upd (upd (upd (upd (upd (upd (upd (upd (upd (upd (upd (upd (upd (upd e10 21 (e10 10)) 22 (e10 11)) 23 t23_11) 24 (e10 0)) 25 (e10 2)) 26 (e10 10)) 27
  t27_15) 28 (e10 2)) 29 (e10 11)) 30 (e10 4)) 31 t31_16) 32 (e10 10)) 33 (e10 11)) 34 t34_17) 10 t34_17) H) (fun Q14 => run S (.bin .sub (.c (e10 2)) (.c (e10 10))) []
  H fun t38_18 H => run S (.bin .add (.c (e10 2)) (.c (e10 11))) [] H fun t41_19 H => run S (.bin .sub (.c t41_19) (.c (e10 10))) [] H fun t43_20 H => run S (.call 146
  [(.c (e10 0)), (.c t38_18), (.c t43_20), (.c (e10 10)), (.c (e10 4))]) [] H fun t46_21 H => run S (.bin .sub (.c (e10 11)) (.c (e10 10))) [] H fun t49_22 H => Q14
  .normal (upd (upd (upd (upd (upd (upd (upd (upd (upd (upd (upd (upd (upd (upd (upd (upd (upd (upd (upd e10 21 (e10 10)) 22 (e10 11)) 23 t23_11) 35 (e10 0)) 36 (e10 2))
  37 (e10 10)) 38 t38_18) 39 (e10 2)) 40 (e10 11)) 41 t41_19) 42 (e10 10)) 43 t43_20) 44 (e10 10)) 45 (e10 4)) 46 t46_21) 47 (e10 11)) 48 (e10 10)) 49 t49_22) 11 t49_22)
  H) Q12) Q) fun Q9 => cnd t20_8 (fun Q23 => Q23 .normal (upd (upd (upd e 18 (e 10)) 19 (e 11)) 20 t20_8) H) (fun Q24 => Q24 (.exit 0) (upd (upd (upd e 18 (e 10)) 19 (e
  11)) 20 t20_8) H) Q9
theorem h145_0 (S : Sys) (e : Fe) (H : Heap) (Q : Kx) : wpC S b145_0 e H Q = s145_0 S e H Q := by kernel_rfl
theorem l145_0 (S : Sys) {Q : Kx} (I : Nat → Fe → Heap → Prop) (d : Nat) {e0 : Fe} {H : Heap} (h0 : I d e0 H) (hr : ∀ (d : Nat) (e : Fe) (H : Heap), I d e H → s145_0 S e
  H (sq (fun e' H' => ∃ d', d' < d ∧ I d' e' H') Q)) : WL S b145_0 e0 H Q := WL_inv I d h0 fun d e H hi => (h145_0 S e H _).mpr (hr d e H hi)
theorem u145_0 (S : Sys) {Q : Kx} {e : Fe} {H : Heap} (h : s145_0 S e H (sq (fun e' H' => WL S b145_0 e' H' Q) Q)) : WL S b145_0 e H Q := WL_once ((h145_0 S e H _).mpr h)
def s145 (S : Sys) (a0 a1 a2 a3 a4 : Value) (H : Heap) (R : Kv) : Prop := run S (.bin .sub (.c a2) (.c a1)) [] H fun t14_1 H => run S (.bin .sub (.c a3) (.c a2)) [] H
  fun t17_2 H => jn (sq (fun e4 H => run S (.bin .sub (.c (e4 2)) (.c (e4 10))) [] H fun t53_5 H => run S (.call 146 [(.c (e4 0)), (.c t53_5), (.c (e4 2)), (.c (e4 10)),
  (.c (e4 4))]) [] H fun t57_6 H => R (tup []) H) (fn [] R)) fun Q3 => jn (blk 0 Q3) fun Q7 => WL S b145_0 (upd (upd (upd (upd (upd (upd (upd (upd (Env.get [a0, a1, a2,
  a3, a4]) 12 a2) 13 a1) 14 t14_1) 10 t14_1) 15 a3) 16 a2) 17 t17_2) 11 t17_2) H Q7
theorem h145 (S : Sys) (a0 a1 a2 a3 a4 : Value) (H : Heap) (R : Kv) : wpC S k145.body (Env.get [a0, a1, a2, a3, a4]) H (fn [] R) = s145 S a0 a1 a2 a3 a4 H R := by
  kernel_rfl
theorem w145 {S : Sys} (hR : S.R 145 = none) (hF : S.F 145 = some k145) (a0 a1 a2 a3 a4 : Value) {H : Heap} {R : Kv} (h : s145 S a0 a1 a2 a3 a4 H R) : Wf S 145 [a0, a1,
  a2, a3, a4] H R := Wf_sh hR hF ((h145 S a0 a1 a2 a3 a4 H R).mpr h)
def b146_0 : KCode := (.seq (.seq (.reg [(.op (some 11) none (.mv (.t 10))), (.op (some 12) none (.mv (.t 3))), (.op (some 13) none (.bin .lss (.t 11) (.t 12)))]) (.cond
  (.t 13) .skip (.exit 0))) (.seq (.block 1 (.reg [(.op (some 16) none (.mv (.t 0))), (.op (some 17) none (.mv (.t 1))), (.op (some 18) none (.mv (.t 10))), (.op (some
  19) none (.bin .add (.t 17) (.t 18))), (.op (some 20) none (.mv (.t 0))), (.op (some 21) none (.mv (.t 2))), (.op (some 22) none (.mv (.t 10))), (.op (some 23) none
  (.bin .add (.t 21) (.t 22))), (.op (some 24) none (.mv (.t 0))), (.op (some 25) none (.mv (.t 2))), (.op (some 26) none (.mv (.t 10))), (.op (some 27) none (.bin .add
  (.t 25) (.t 26))), (.op (some 28) none (.iad 1 (.t 24) (.t 27))), (.op (some 29) none (.ld (.t 28))), (.op (some 30) none (.mv (.t 0))), (.op (some 31) none (.mv (.t
  1))), (.op (some 32) none (.mv (.t 10))), (.op (some 33) none (.bin .add (.t 31) (.t 32))), (.op (some 34) none (.iad 1 (.t 30) (.t 33))), (.op (some 35) none (.ld (.t
  34))), (.op (some 36) none (.iad 1 (.t 16) (.t 19))), (.op none none (.st (.t 36) (.t 29))), (.op (some 37) none (.iad 1 (.t 20) (.t 23))), (.op none none (.st (.t 37)
  (.t 35)))])) (.reg [(.op (some 14) none (.mv (.t 10))), (.op (some 15) none (.bin .add (.t 14) (.c (.int .i64 1)))), (.op (some 10) none (.mv (.t 15)))])))
def s146_0 (S : Sys) (e : Fe) (H : Heap) (Q : Kx) : Prop := run S (.bin .lss (.c (e 10)) (.c (e 3))) [] H fun t13_2 H => jn (sq (fun e4 H => jn (sq (fun e6 H => run S
  (.bin .add (.c (e6 10)) (.c (.int .i64 1))) [] H fun t15_7 H => Q .normal (upd (upd (upd e6 14 (e6 10)) 15 t15_7) 10 t15_7) H) Q) fun Q5 => run S (.bin .add (.c (e4
  1)) (.c (e4 10))) [] H fun t19_8 H => run S (.bin .add (.c (e4 2)) (.c (e4 10))) [] H fun t23_9 H => run S (.bin .add (.c (e4 2)) (.c (e4 10))) [] H fun t27_10 H =>
  run S (.iad 1 (.c (e4 0)) (.c t27_10)) [] H fun t28_11 H => run S (.ld (.c t28_11)) [] H fun t29_12 H => run S (.bin .add (.c (e4 1)) (.c (e4 10))) [] H fun t33_13 H
  => run S (.iad 1 (.c (e4 0)) (.c t33_13)) [] H fun t34_14 H => run S (.ld (.c t34_14)) [] H fun t35_15 H => run S (.iad 1 (.c (e4 0)) (.c t19_8)) [] H fun t36_16 H =>
  run S (.st (.c t36_16) (.c t29_12)) [] H fun _ H => run S (.iad 1 (.c (e4 0)) (.c t23_9)) [] H fun t37_17 H => run S (.st (.c t37_17) (.c t35_15)) [] H fun _ H => Q5
  .normal (upd (upd (upd (upd (upd (upd (upd (upd (upd (upd (upd (upd (upd (upd (upd (upd (upd (upd (upd (upd (upd (upd e4 16 (e4 0)) 17 (e4 1)) 18 (e4 10)) 19 t19_8) 20
  (e4 0)) 21 (e4 2)) 22 (e4 10)) 23 t23_9) 24 (e4 0)) 25 (e4 2)) 26 (e4 10)) 27 t27_10) 28 t28_11) 29 t29_12) 30 (e4 0)) 31 (e4 1)) 32 (e4 10)) 33 t33_13) 34 t34_14) 35
  t35_15) 36 t36_16) 37 t37_17) H) Q) fun Q3 => cnd t13_2 (fun Q18 => Q18 .normal (upd (upd (upd e 11 (e 10)) 12 (e 3)) 13 t13_2) H) (fun Q19 => Q19 (.exit 0) (upd (upd
  (upd e 11 (e 10)) 12 (e 3)) 13 t13_2) H) Q3
theorem h146_0 (S : Sys) (e : Fe) (H : Heap) (Q : Kx) : wpC S b146_0 e H Q = s146_0 S e H Q := by kernel_rfl
theorem l146_0 (S : Sys) {Q : Kx} (I : Nat → Fe → Heap → Prop) (d : Nat) {e0 : Fe} {H : Heap} (h0 : I d e0 H) (hr : ∀ (d : Nat) (e : Fe) (H : Heap), I d e H → s146_0 S e
  H (sq (fun e' H' => ∃ d', d' < d ∧ I d' e' H') Q)) : WL S b146_0 e0 H Q := WL_inv I d h0 fun d e H hi => (h146_0 S e H _).mpr (hr d e H hi)
theorem u146_0 (S : Sys) {Q : Kx} {e : Fe} {H : Heap} (h : s146_0 S e H (sq (fun e' H' => WL S b146_0 e' H' Q) Q)) : WL S b146_0 e H Q := WL_once ((h146_0 S e H _).mpr h)
def s146 (S : Sys) (a0 a1 a2 a3 a4 : Value) (H : Heap) (R : Kv) : Prop := jn (blk 0 (fn [] R)) fun Q1 => WL S b146_0 (upd (Env.get [a0, a1, a2, a3, a4]) 10 (.int .i64
  0)) H Q1
theorem h146 (S : Sys) (a0 a1 a2 a3 a4 : Value) (H : Heap) (R : Kv) : wpC S k146.body (Env.get [a0, a1, a2, a3, a4]) H (fn [] R) = s146 S a0 a1 a2 a3 a4 H R := by
  kernel_rfl
theorem w146 {S : Sys} (hR : S.R 146 = none) (hF : S.F 146 = some k146) (a0 a1 a2 a3 a4 : Value) {H : Heap} {R : Kv} (h : s146 S a0 a1 a2 a3 a4 H R) : Wf S 146 [a0, a1,
  a2, a3, a4] H R := Wf_sh hR hF ((h146 S a0 a1 a2 a3 a4 H R).mpr h)
end Go.Proofs.Ytlboioplemlneaa.K
