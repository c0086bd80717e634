/- The functions as nested words with named values, each held against its code by the kernel. Printed by a program of this work (sh.py). -/
import Derived.Test.YtlboioplemlneaaGreatKLowSh1
set_option maxRecDepth 100000
set_option linter.unusedVariables false
namespace Go.Proofs.YtlboioplemlneaaGreat.K
open Go Go.Proofs
def b32_0 : KCode := (.seq (.seq (.reg [(.op (some 18) none (.mv (.t 6))), (.op (some 19) none (.mv (.t 4))), (.op (some 20) none (.lenL (.t 19))), (.op (some 21) none
  (.bin .lss (.t 18) (.t 20)))]) (.cond (.t 21) .skip (.exit 0))) (.seq (.block 1 (.seq (.reg [(.op (some 24) none (.mv (.t 4))), (.op (some 25) none (.mv (.t 6))), (.op
  (some 26) none (.iad 1 (.t 24) (.t 25))), (.op (some 27) none (.ld (.t 26))), (.op (some 28) none (.cvt .u8 (.t 27))), (.op (some 7) none (.mv (.t 28)))]) (.seq (.seq
  (.reg [(.op (some 29) none (.mv (.t 6))), (.op (some 30) none (.bin .add (.t 29) (.c (.int .i64 1)))), (.op (some 31) none (.mv (.t 4))), (.op (some 32) none (.lenL
  (.t 31))), (.op (some 33) none (.bin .lss (.t 30) (.t 32)))]) (.cond (.t 33) (.reg [(.op (some 34) none (.mv (.t 7))), (.op (some 35) none (.mv (.t 4))), (.op (some
  36) none (.mv (.t 6))), (.op (some 37) none (.bin .add (.t 36) (.c (.int .i64 1)))), (.op (some 38) none (.iad 1 (.t 35) (.t 37))), (.op (some 39) none (.ld (.t 38))),
  (.op (some 40) none (.cvt .u8 (.t 39))), (.op (some 41) none (.bin .shl (.t 40) (.c (.int .u64 4)))), (.op (some 42) none (.bin .or (.t 34) (.t 41))), (.op (some 7)
  none (.mv (.t 42)))]) .skip)) (.reg [(.op (some 43) none (.mv (.t 5))), (.op (some 44) none (.mv (.t 7))), (.op (some 45) none (.bsl 5 1 [(.int .u8 0)] [(0, (1, (.t
  44)))])), (.op (some 46) none (.app 5 1 1 (.t 43) (.t 45))), (.op (some 5) none (.mv (.t 46)))])))) (.reg [(.op (some 22) none (.mv (.t 6))), (.op (some 23) none (.bin
  .add (.t 22) (.c (.int .i64 2)))), (.op (some 6) none (.mv (.t 23)))])))
def s32_0 (S : Sys) (e : Fe) (H : Heap) (Q : Kx) : Prop := run S (.lenL (.c (e 4))) [] H fun t20_16 H => run S (.bin .lss (.c (e 6)) (.c t20_16)) [] H fun t21_17 H => jn
  (sq (fun e19 H => jn (sq (fun e21 H => run S (.bin .add (.c (e21 6)) (.c (.int .i64 2))) [] H fun t23_22 H => Q .normal (upd (upd (upd e21 22 (e21 6)) 23 t23_22) 6
  t23_22) H) Q) fun Q20 => run S (.iad 1 (.c (e19 4)) (.c (e19 6))) [] H fun t26_23 H => run S (.ld (.c t26_23)) [] H fun t27_24 H => run S (.cvt .u8 (.c t27_24)) [] H
  fun t28_25 H => run S (.bin .add (.c (e19 6)) (.c (.int .i64 1))) [] H fun t30_26 H => run S (.lenL (.c (e19 4))) [] H fun t32_27 H => run S (.bin .lss (.c t30_26) (.c
  t32_27)) [] H fun t33_28 H => jn (blk 1 Q20) fun Q29 => jn (sq (fun e31 H => run S (.bsl 5 1 [(.int .u8 0)] [(0, (1, (.c (e31 7))))]) [] H fun t45_32 H => run S (.app
  5 1 1 (.c (e31 5)) (.c t45_32)) [] H fun t46_33 H => Q29 .normal (upd (upd (upd (upd (upd e31 43 (e31 5)) 44 (e31 7)) 45 t45_32) 46 t46_33) 5 t46_33) H) Q29) fun Q30
  => cnd t33_28 (fun Q34 => run S (.bin .add (.c (e19 6)) (.c (.int .i64 1))) [] H fun t37_36 H => run S (.iad 1 (.c (e19 4)) (.c t37_36)) [] H fun t38_37 H => run S
  (.ld (.c t38_37)) [] H fun t39_38 H => run S (.cvt .u8 (.c t39_38)) [] H fun t40_39 H => run S (.bin .shl (.c t40_39) (.c (.int .u64 4))) [] H fun t41_40 H => run S
  (.bin .or (.c t28_25) (.c t41_40)) [] H fun t42_41 H => Q34 .normal (upd (upd (upd (upd (upd (upd (upd (upd (upd (upd (upd (upd (upd (upd (upd (upd (upd (upd (upd (upd
  (upd e19 24 (e19 4)) 25 (e19 6)) 26 t26_23) 27 t27_24) 28 t28_25) 7 t28_25) 29 (e19 6)) 30 t30_26) 31 (e19 4)) 32 t32_27) 33 t33_28) 34 t28_25) 35 (e19 4)) 36 (e19 6))
  37 t37_36) 38 t38_37) 39 t39_38) 40 t40_39) 41 t41_40) 42 t42_41) 7 t42_41) H) (fun Q35 => Q35 .normal (upd (upd (upd (upd (upd (upd (upd (upd (upd (upd (upd e19 24
  (e19 4)) 25 (e19 6)) 26 t26_23) 27 t27_24) 28 t28_25) 7 t28_25) 29 (e19 6)) 30 t30_26) 31 (e19 4)) 32 t32_27) 33 t33_28) H) Q30) Q) fun Q18 => cnd t21_17 (fun Q42 =>
  Q42 .normal (upd (upd (upd (upd e 18 (e 6)) 19 (e 4)) 20 t20_16) 21 t21_17) H) (fun Q43 => Q43 (.exit 0) (upd (upd (upd (upd e 18 (e 6)) 19 (e 4)) 20 t20_16) 21
  t21_17) H) Q18
theorem h32_0 (S : Sys) (e : Fe) (H : Heap) (Q : Kx) : wpC S b32_0 e H Q = s32_0 S e H Q := by kernel_rfl
theorem l32_0 (S : Sys) {Q : Kx} (I : Nat → Fe → Heap → Prop) (d : Nat) {e0 : Fe} {H : Heap} (h0 : I d e0 H) (hr : ∀ (d : Nat) (e : Fe) (H : Heap), I d e H → s32_0 S e H
  (sq (fun e' H' => ∃ d', d' < d ∧ I d' e' H') Q)) : WL S b32_0 e0 H Q := WL_inv I d h0 fun d e H hi => (h32_0 S e H _).mpr (hr d e H hi)
theorem u32_0 (S : Sys) {Q : Kx} {e : Fe} {H : Heap} (h : s32_0 S e H (sq (fun e' H' => WL S b32_0 e' H' Q) Q)) : WL S b32_0 e H Q := WL_once ((h32_0 S e H _).mpr h)
def s32 (S : Sys) (a0 : Value) (H : Heap) (R : Kv) : Prop := run S (.call 57 [(.c a0)]) [] H fun t9_1 H => run S (.un .not (.c t9_1)) [] H fun t10_2 H => jn (sq (fun e4
  H => run S (.call 58 [(.c (e4 0))]) [] H fun t12_5 H => run S (.lenL (.c t12_5)) [] H fun t14_6 H => run S (.bin .sub (.c t14_6) (.c (.int .i64 1))) [] H fun t15_7 H
  => run S (.cvt .u8 (.c t15_7)) [] H fun t16_8 H => run S (.bsl 5 1 [(.int .u8 0)] [(0, (1, (.c t16_8)))]) [] H fun t17_9 H => jn (sq (fun e11 H => run S (.b2s 5 (.c
  (e11 5))) [] H fun t48_12 H => R (tup [t48_12, (.bool true)]) H) (fn [(.t 2), (.t 3)] R)) fun Q10 => jn (blk 0 Q10) fun Q13 => WL S b32_0 (upd (upd (upd (upd (upd (upd
  (upd (upd (upd (upd e4 11 (e4 0)) 12 t12_5) 4 t12_5) 13 t12_5) 14 t14_6) 15 t15_7) 16 t16_8) 17 t17_9) 5 t17_9) 6 (.int .i64 0)) H Q13) (fn [(.t 2), (.t 3)] R)) fun Q3
  => cnd t10_2 (fun Q14 => Q14 .ret (upd (upd (upd (upd (upd (upd (upd (Env.get [a0]) 2 (.string (bs []))) 3 (.bool false)) 8 a0) 9 t9_1) 10 t10_2) 2 (.string (bs [])))
  3 (.bool false)) H) (fun Q15 => Q15 .normal (upd (upd (upd (upd (upd (Env.get [a0]) 2 (.string (bs []))) 3 (.bool false)) 8 a0) 9 t9_1) 10 t10_2) H) Q3
theorem h32 (S : Sys) (a0 : Value) (H : Heap) (R : Kv) : wpC S k32.body (Env.get [a0]) H (fn [(.t 2), (.t 3)] R) = s32 S a0 H R := by kernel_rfl
theorem w32 {S : Sys} (hR : S.R 32 = none) (hF : S.F 32 = some k32) (a0 : Value) {H : Heap} {R : Kv} (h : s32 S a0 H R) : Wf S 32 [a0] H R := Wf_sh hR hF ((h32 S a0 H
  R).mpr h)
def b33_0 : KCode := (.seq (.reg [(.op (some 21) none (.bin .lss (.t 20) (.t 19)))]) (.seq (.cond (.t 21) .skip (.exit 0)) (.seq (.block 1 (.seq (.reg [(.op (some 22)
  none (.iad 1 (.t 18) (.t 20))), (.op (some 23) none (.ld (.t 22))), (.op (some 10) none (.mv (.t 23)))]) (.seq (.seq (.reg [(.op (some 24) none (.mv (.t 10))), (.op
  (some 25) none (.cvt .i64 (.t 24))), (.op (some 26) none (.mv (.t 0))), (.op (some 27) none (.lenL (.t 26))), (.op (some 28) none (.bin .geq (.t 25) (.t 27))), (.op
  (some 29) none (.mv (.t 28))), (.op (some 30) (some (29, false)) (.mv (.t 0))), (.op (some 31) (some (29, false)) (.mv (.t 10))), (.op (some 32) (some (29, false))
  (.iad 1 (.t 30) (.t 31))), (.op (some 33) (some (29, false)) (.ld (.t 32))), (.op (some 34) (some (29, false)) (.bin .eql (.t 33) (.c (.int .i64 0)))), (.op (some 35)
  none (.pick (.t 29) (.c (.bool true)) (.t 34)))]) (.cond (.t 35) (.seq (.reg [(.op (some 4) none (.mv (.c (.string (bs []))))), (.op (some 5) none (.mv (.c (.bool
  false))))]) .ret) .skip)) (.reg [(.op (some 36) none (.mv (.t 6))), (.op (some 37) none (.mv (.t 10))), (.op (some 38) none (.iad 1 (.t 36) (.t 37))), (.op (some 39)
  none (.ld (.t 38))), (.op (some 40) none (.mv (.t 0))), (.op (some 41) none (.mv (.t 10))), (.op (some 42) none (.iad 1 (.t 40) (.t 41))), (.op (some 43) none (.ld (.t
  42))), (.op (some 45) none (.mv (.t 0))), (.op (some 46) none (.mv (.t 10))), (.op (some 47) none (.iad 1 (.t 45) (.t 46))), (.op (some 48) none (.ld (.t 47))), (.op
  (some 44) none (.call 61 [(.t 39), (.t 43)])), (.chk 48 none (.ld (.t 47))), (.op (some 49) none (.call 60 [(.t 8), (.t 44), (.t 48)]))])))) (.reg [(.op (some 50) none
  (.bin .add (.t 20) (.c (.int .i64 1)))), (.op (some 20) none (.mv (.t 50)))]))))
def s33_0 (S : Sys) (e : Fe) (H : Heap) (Q : Kx) : Prop := run S (.bin .lss (.c (e 20)) (.c (e 19))) [] H fun t21_16 H => jn (sq (fun e18 H => jn (sq (fun e20 H => run S
  (.bin .add (.c (e20 20)) (.c (.int .i64 1))) [] H fun t50_21 H => Q .normal (upd (upd e20 50 t50_21) 20 t50_21) H) Q) fun Q19 => run S (.iad 1 (.c (e18 18)) (.c (e18
  20))) [] H fun t22_22 H => run S (.ld (.c t22_22)) [] H fun t23_23 H => run S (.cvt .i64 (.c t23_23)) [] H fun t25_24 H => run S (.lenL (.c (e18 0))) [] H fun t27_25 H
  => run S (.bin .geq (.c t25_24) (.c t27_25)) [] H fun t28_26 H => gd t28_26 false (run S (.mv (.c (e18 0))) [] H) H fun t30_27 H => gd t28_26 false (run S (.mv (.c
  t23_23)) [] H) H fun t31_28 H => gd t28_26 false (run S (.iad 1 (.c t30_27) (.c t31_28)) [] H) H fun t32_29 H => gd t28_26 false (run S (.ld (.c t32_29)) [] H) H fun
  t33_30 H => gd t28_26 false (run S (.bin .eql (.c t33_30) (.c (.int .i64 0))) [] H) H fun t34_31 H => run S (.pick (.c t28_26) (.c (.bool true)) (.c t34_31)) [] H fun
  t35_32 H => jn (blk 1 Q19) fun Q33 => jn (sq (fun e35 H => run S (.iad 1 (.c (e35 6)) (.c (e35 10))) [] H fun t38_36 H => run S (.ld (.c t38_36)) [] H fun t39_37 H =>
  run S (.iad 1 (.c (e35 0)) (.c (e35 10))) [] H fun t42_38 H => run S (.ld (.c t42_38)) [] H fun t43_39 H => run S (.iad 1 (.c (e35 0)) (.c (e35 10))) [] H fun t47_40 H
  => run S (.ld (.c t47_40)) [] H fun t48_41 H => run S (.call 61 [(.c t39_37), (.c t43_39)]) [] H fun t44_42 H => ck (kop (.ld (.c t47_40)) [] H) t48_41 (run S (.call
  60 [(.c (e35 8)), (.c t44_42), (.c t48_41)]) [] H fun t49_43 H => Q33 .normal (upd (upd (upd (upd (upd (upd (upd (upd (upd (upd (upd (upd (upd (upd e35 36 (e35 6)) 37
  (e35 10)) 38 t38_36) 39 t39_37) 40 (e35 0)) 41 (e35 10)) 42 t42_38) 43 t43_39) 45 (e35 0)) 46 (e35 10)) 47 t47_40) 48 t48_41) 44 t44_42) 49 t49_43) H)) Q33) fun Q34 =>
  cnd t35_32 (fun Q44 => Q44 .ret (upd (upd (upd (upd (upd (upd (upd (upd (upd (upd (upd (upd (upd (upd (upd (upd (upd e18 22 t22_22) 23 t23_23) 10 t23_23) 24 t23_23) 25
  t25_24) 26 (e18 0)) 27 t27_25) 28 t28_26) 29 t28_26) 30 t30_27) 31 t31_28) 32 t32_29) 33 t33_30) 34 t34_31) 35 t35_32) 4 (.string (bs []))) 5 (.bool false)) H) (fun
  Q45 => Q45 .normal (upd (upd (upd (upd (upd (upd (upd (upd (upd (upd (upd (upd (upd (upd (upd e18 22 t22_22) 23 t23_23) 10 t23_23) 24 t23_23) 25 t25_24) 26 (e18 0)) 27
  t27_25) 28 t28_26) 29 t28_26) 30 t30_27) 31 t31_28) 32 t32_29) 33 t33_30) 34 t34_31) 35 t35_32) H) Q34) Q) fun Q17 => cnd t21_16 (fun Q46 => Q46 .normal (upd e 21
  t21_16) H) (fun Q47 => Q47 (.exit 0) (upd e 21 t21_16) H) Q17
theorem h33_0 (S : Sys) (e : Fe) (H : Heap) (Q : Kx) : wpC S b33_0 e H Q = s33_0 S e H Q := by kernel_rfl
theorem l33_0 (S : Sys) {Q : Kx} (I : Nat → Fe → Heap → Prop) (d : Nat) {e0 : Fe} {H : Heap} (h0 : I d e0 H) (hr : ∀ (d : Nat) (e : Fe) (H : Heap), I d e H → s33_0 S e H
  (sq (fun e' H' => ∃ d', d' < d ∧ I d' e' H') Q)) : WL S b33_0 e0 H Q := WL_inv I d h0 fun d e H hi => (h33_0 S e H _).mpr (hr d e H hi)
theorem u33_0 (S : Sys) {Q : Kx} {e : Fe} {H : Heap} (h : s33_0 S e H (sq (fun e' H' => WL S b33_0 e' H' Q) Q)) : WL S b33_0 e H Q := WL_once ((h33_0 S e H _).mpr h)
def s33 (S : Sys) (a0 a1 : Value) (H : Heap) (R : Kv) : Prop := run S (.call 59 [(.c a0)]) [] H fun t13_1 H => run S (.xt (.c t13_1) 0) [] H fun t14_2 H => run S (.xt
  (.c t13_1) 1) [] H fun t15_3 H => run S (.un .not (.c t15_3)) [] H fun t17_4 H => jn (sq (fun e6 H => run S (.alloc 91 [(.slice none 0 0), (.int .i64 0)]) [] H fun
  t8_7 H => run S (.lenL (.c (e6 1))) [] H fun t19_8 H => jn (sq (fun e10 H => run S (.call 62 [(.c (e10 8))]) [] H fun t51_11 H => run S (.b2s 5 (.c t51_11)) [] H fun
  t52_12 H => R (tup [t52_12, (.bool true)]) H) (fn [(.t 4), (.t 5)] R)) fun Q9 => jn (blk 0 Q9) fun Q13 => WL S b33_0 (upd (upd (upd (upd e6 8 t8_7) 18 (e6 1)) 19
  t19_8) 20 (.int .i64 0)) H Q13) (fn [(.t 4), (.t 5)] R)) fun Q5 => cnd t17_4 (fun Q14 => Q14 .ret (upd (upd (upd (upd (upd (upd (upd (upd (upd (upd (upd (upd (upd
  (Env.get [a0, a1]) 4 (.string (bs []))) 5 (.bool false)) 12 a0) 13 t13_1) 11 t13_1) 14 t14_2) 15 t15_3) 6 t14_2) 7 t15_3) 16 t15_3) 17 t17_4) 4 (.string (bs []))) 5
  (.bool false)) H) (fun Q15 => Q15 .normal (upd (upd (upd (upd (upd (upd (upd (upd (upd (upd (upd (Env.get [a0, a1]) 4 (.string (bs []))) 5 (.bool false)) 12 a0) 13
  t13_1) 11 t13_1) 14 t14_2) 15 t15_3) 6 t14_2) 7 t15_3) 16 t15_3) 17 t17_4) H) Q5
theorem h33 (S : Sys) (a0 a1 : Value) (H : Heap) (R : Kv) : wpC S k33.body (Env.get [a0, a1]) H (fn [(.t 4), (.t 5)] R) = s33 S a0 a1 H R := by kernel_rfl
theorem w33 {S : Sys} (hR : S.R 33 = none) (hF : S.F 33 = some k33) (a0 a1 : Value) {H : Heap} {R : Kv} (h : s33 S a0 a1 H R) : Wf S 33 [a0, a1] H R := Wf_sh hR hF ((h33
  S a0 a1 H R).mpr h)
def b36_0 : KCode := (.seq (.seq (.reg [(.op (some 14) none (.mv (.t 5))), (.op (some 15) none (.mv (.t 3))), (.op (some 16) none (.lenL (.t 15))), (.op (some 17) none
  (.bin .lss (.t 14) (.t 16)))]) (.cond (.t 17) .skip (.exit 0))) (.seq (.block 1 (.seq (.reg [(.op (some 20) none (.mv (.t 3))), (.op (some 21) none (.mv (.t 5))), (.op
  (some 22) none (.iad 1 (.t 20) (.t 21))), (.op (some 23) none (.ld (.t 22))), (.op (some 6) none (.mv (.t 23)))]) (.seq (.seq (.reg [(.op (some 24) none (.mv (.t 5))),
  (.op (some 25) none (.bin .add (.t 24) (.c (.int .i64 1)))), (.op (some 26) none (.mv (.t 3))), (.op (some 27) none (.lenL (.t 26))), (.op (some 28) none (.bin .lss
  (.t 25) (.t 27)))]) (.cond (.t 28) (.reg [(.op (some 29) none (.mv (.t 6))), (.op (some 30) none (.mv (.t 3))), (.op (some 31) none (.mv (.t 5))), (.op (some 32) none
  (.bin .add (.t 31) (.c (.int .i64 1)))), (.op (some 33) none (.iad 1 (.t 30) (.t 32))), (.op (some 34) none (.ld (.t 33))), (.op (some 35) none (.bin .mul (.c (.int
  .i64 16)) (.t 34))), (.op (some 36) none (.bin .add (.t 29) (.t 35))), (.op (some 6) none (.mv (.t 36)))]) .skip)) (.reg [(.op (some 37) none (.mv (.t 4))), (.op (some
  38) none (.mv (.t 6))), (.op (some 39) none (.cvt .u8 (.t 38))), (.op (some 40) none (.bsl 5 1 [(.int .u8 0)] [(0, (1, (.t 39)))])), (.op (some 41) none (.app 5 1 1
  (.t 37) (.t 40))), (.op (some 4) none (.mv (.t 41)))])))) (.reg [(.op (some 18) none (.mv (.t 5))), (.op (some 19) none (.bin .add (.t 18) (.c (.int .i64 2)))), (.op
  (some 5) none (.mv (.t 19)))])))
def s36_0 (S : Sys) (e : Fe) (H : Heap) (Q : Kx) : Prop := run S (.lenL (.c (e 3))) [] H fun t16_10 H => run S (.bin .lss (.c (e 5)) (.c t16_10)) [] H fun t17_11 H => jn
  (sq (fun e13 H => jn (sq (fun e15 H => run S (.bin .add (.c (e15 5)) (.c (.int .i64 2))) [] H fun t19_16 H => Q .normal (upd (upd (upd e15 18 (e15 5)) 19 t19_16) 5
  t19_16) H) Q) fun Q14 => run S (.iad 1 (.c (e13 3)) (.c (e13 5))) [] H fun t22_17 H => run S (.ld (.c t22_17)) [] H fun t23_18 H => run S (.bin .add (.c (e13 5)) (.c
  (.int .i64 1))) [] H fun t25_19 H => run S (.lenL (.c (e13 3))) [] H fun t27_20 H => run S (.bin .lss (.c t25_19) (.c t27_20)) [] H fun t28_21 H => jn (blk 1 Q14) fun
  Q22 => jn (sq (fun e24 H => run S (.cvt .u8 (.c (e24 6))) [] H fun t39_25 H => run S (.bsl 5 1 [(.int .u8 0)] [(0, (1, (.c t39_25)))]) [] H fun t40_26 H => run S (.app
  5 1 1 (.c (e24 4)) (.c t40_26)) [] H fun t41_27 H => Q22 .normal (upd (upd (upd (upd (upd (upd e24 37 (e24 4)) 38 (e24 6)) 39 t39_25) 40 t40_26) 41 t41_27) 4 t41_27)
  H) Q22) fun Q23 => cnd t28_21 (fun Q28 => run S (.bin .add (.c (e13 5)) (.c (.int .i64 1))) [] H fun t32_30 H => run S (.iad 1 (.c (e13 3)) (.c t32_30)) [] H fun
  t33_31 H => run S (.ld (.c t33_31)) [] H fun t34_32 H => run S (.bin .mul (.c (.int .i64 16)) (.c t34_32)) [] H fun t35_33 H => run S (.bin .add (.c t23_18) (.c
  t35_33)) [] H fun t36_34 H => Q28 .normal (upd (upd (upd (upd (upd (upd (upd (upd (upd (upd (upd (upd (upd (upd (upd (upd (upd (upd (upd e13 20 (e13 3)) 21 (e13 5)) 22
  t22_17) 23 t23_18) 6 t23_18) 24 (e13 5)) 25 t25_19) 26 (e13 3)) 27 t27_20) 28 t28_21) 29 t23_18) 30 (e13 3)) 31 (e13 5)) 32 t32_30) 33 t33_31) 34 t34_32) 35 t35_33) 36
  t36_34) 6 t36_34) H) (fun Q29 => Q29 .normal (upd (upd (upd (upd (upd (upd (upd (upd (upd (upd e13 20 (e13 3)) 21 (e13 5)) 22 t22_17) 23 t23_18) 6 t23_18) 24 (e13 5))
  25 t25_19) 26 (e13 3)) 27 t27_20) 28 t28_21) H) Q23) Q) fun Q12 => cnd t17_11 (fun Q35 => Q35 .normal (upd (upd (upd (upd e 14 (e 5)) 15 (e 3)) 16 t16_10) 17 t17_11)
  H) (fun Q36 => Q36 (.exit 0) (upd (upd (upd (upd e 14 (e 5)) 15 (e 3)) 16 t16_10) 17 t17_11) H) Q12
theorem h36_0 (S : Sys) (e : Fe) (H : Heap) (Q : Kx) : wpC S b36_0 e H Q = s36_0 S e H Q := by kernel_rfl
theorem l36_0 (S : Sys) {Q : Kx} (I : Nat → Fe → Heap → Prop) (d : Nat) {e0 : Fe} {H : Heap} (h0 : I d e0 H) (hr : ∀ (d : Nat) (e : Fe) (H : Heap), I d e H → s36_0 S e H
  (sq (fun e' H' => ∃ d', d' < d ∧ I d' e' H') Q)) : WL S b36_0 e0 H Q := WL_inv I d h0 fun d e H hi => (h36_0 S e H _).mpr (hr d e H hi)
theorem u36_0 (S : Sys) {Q : Kx} {e : Fe} {H : Heap} (h : s36_0 S e H (sq (fun e' H' => WL S b36_0 e' H' Q) Q)) : WL S b36_0 e H Q := WL_once ((h36_0 S e H _).mpr h)
def s36 (S : Sys) (a0 : Value) (H : Heap) (R : Kv) : Prop := run S (.call 65 [(.c a0)]) [] H fun t8_1 H => run S (.lenL (.c t8_1)) [] H fun t10_2 H => run S (.bin .sub
  (.c t10_2) (.c (.int .i64 1))) [] H fun t11_3 H => run S (.cvt .u8 (.c t11_3)) [] H fun t12_4 H => run S (.bsl 5 1 [(.int .u8 0)] [(0, (1, (.c t12_4)))]) [] H fun
  t13_5 H => jn (sq (fun e7 H => run S (.b2s 5 (.c (e7 4))) [] H fun t43_8 H => R t43_8 H) (fn [(.t 2)] R)) fun Q6 => jn (blk 0 Q6) fun Q9 => WL S b36_0 (upd (upd (upd
  (upd (upd (upd (upd (upd (upd (upd (upd (Env.get [a0]) 2 (.string (bs []))) 7 a0) 8 t8_1) 3 t8_1) 9 t8_1) 10 t10_2) 11 t11_3) 12 t12_4) 13 t13_5) 4 t13_5) 5 (.int .i64
  0)) H Q9
theorem h36 (S : Sys) (a0 : Value) (H : Heap) (R : Kv) : wpC S k36.body (Env.get [a0]) H (fn [(.t 2)] R) = s36 S a0 H R := by kernel_rfl
theorem w36 {S : Sys} (hR : S.R 36 = none) (hF : S.F 36 = some k36) (a0 : Value) {H : Heap} {R : Kv} (h : s36 S a0 H R) : Wf S 36 [a0] H R := Wf_sh hR hF ((h36 S a0 H
  R).mpr h)
def b51_0 : KCode := (.seq (.reg [(.op (some 34) none (.bin .lss (.t 33) (.t 32)))]) (.seq (.cond (.t 34) .skip (.exit 0)) (.seq (.block 1 (.seq (.reg [(.op (some 36)
  none (.mv (.t 8))), (.op (some 37) none (.mv (.t 9))), (.op (some 38) none (.call 75 [(.t 36), (.t 37)])), (.op (some 35) none (.mv (.t 38))), (.op (some 39) none (.xt
  (.t 35) 0)), (.op (some 40) none (.xt (.t 35) 1)), (.op (some 11) none (.mv (.t 39))), (.op (some 12) none (.mv (.t 40)))]) (.seq (.seq (.reg [(.op (some 41) none (.mv
  (.t 12))), (.op (some 42) none (.un .not (.t 41)))]) (.cond (.t 42) (.seq (.reg [(.op (some 6) none (.mv (.c (.slice none 0 0)))), (.op (some 7) none (.mv (.c (.bool
  false))))]) .ret) .skip)) (.reg [(.op (some 43) none (.mv (.t 10))), (.op (some 44) none (.mv (.t 11))), (.op (some 45) none (.bsl 5 1 [(.int .u8 0)] [(0, (1, (.t
  44)))])), (.op (some 46) none (.app 5 1 1 (.t 43) (.t 45))), (.op (some 10) none (.mv (.t 46)))])))) (.reg [(.op (some 47) none (.bin .add (.t 33) (.c (.int .i64
  1)))), (.op (some 33) none (.mv (.t 47)))]))))
def s51_0 (S : Sys) (e : Fe) (H : Heap) (Q : Kx) : Prop := run S (.bin .lss (.c (e 33)) (.c (e 32))) [] H fun t34_32 H => jn (sq (fun e34 H => jn (sq (fun e36 H => run S
  (.bin .add (.c (e36 33)) (.c (.int .i64 1))) [] H fun t47_37 H => Q .normal (upd (upd e36 47 t47_37) 33 t47_37) H) Q) fun Q35 => run S (.call 75 [(.c (e34 8)), (.c
  (e34 9))]) [] H fun t38_38 H => run S (.xt (.c t38_38) 0) [] H fun t39_39 H => run S (.xt (.c t38_38) 1) [] H fun t40_40 H => run S (.un .not (.c t40_40)) [] H fun
  t42_41 H => jn (blk 1 Q35) fun Q42 => jn (sq (fun e44 H => run S (.bsl 5 1 [(.int .u8 0)] [(0, (1, (.c (e44 11))))]) [] H fun t45_45 H => run S (.app 5 1 1 (.c (e44
  10)) (.c t45_45)) [] H fun t46_46 H => Q42 .normal (upd (upd (upd (upd (upd e44 43 (e44 10)) 44 (e44 11)) 45 t45_45) 46 t46_46) 10 t46_46) H) Q42) fun Q43 => cnd
  t42_41 (fun Q47 => Q47 .ret (upd (upd (upd (upd (upd (upd (upd (upd (upd (upd (upd (upd e34 36 (e34 8)) 37 (e34 9)) 38 t38_38) 35 t38_38) 39 t39_39) 40 t40_40) 11
  t39_39) 12 t40_40) 41 t40_40) 42 t42_41) 6 (.slice none 0 0)) 7 (.bool false)) H) (fun Q48 => Q48 .normal (upd (upd (upd (upd (upd (upd (upd (upd (upd (upd e34 36 (e34
  8)) 37 (e34 9)) 38 t38_38) 35 t38_38) 39 t39_39) 40 t40_40) 11 t39_39) 12 t40_40) 41 t40_40) 42 t42_41) H) Q43) Q) fun Q33 => cnd t34_32 (fun Q49 => Q49 .normal (upd e
  34 t34_32) H) (fun Q50 => Q50 (.exit 0) (upd e 34 t34_32) H) Q33
theorem h51_0 (S : Sys) (e : Fe) (H : Heap) (Q : Kx) : wpC S b51_0 e H Q = s51_0 S e H Q := by kernel_rfl
theorem l51_0 (S : Sys) {Q : Kx} (I : Nat → Fe → Heap → Prop) (d : Nat) {e0 : Fe} {H : Heap} (h0 : I d e0 H) (hr : ∀ (d : Nat) (e : Fe) (H : Heap), I d e H → s51_0 S e H
  (sq (fun e' H' => ∃ d', d' < d ∧ I d' e' H') Q)) : WL S b51_0 e0 H Q := WL_inv I d h0 fun d e H hi => (h51_0 S e H _).mpr (hr d e H hi)
theorem u51_0 (S : Sys) {Q : Kx} {e : Fe} {H : Heap} (h : s51_0 S e H (sq (fun e' H' => WL S b51_0 e' H' Q) Q)) : WL S b51_0 e H Q := WL_once ((h51_0 S e H _).mpr h)
def s51 (S : Sys) (a0 a1 a2 : Value) (H : Heap) (R : Kv) : Prop := run S (.call 57 [(.c a0)]) [] H fun t17_1 H => run S (.un .not (.c t17_1)) [] H fun t18_2 H => gd
  t18_2 false (run S (.mv (.c a2)) [] H) H fun t20_3 H => gd t18_2 false (run S (.bin .lss (.c t20_3) (.c (.int .i64 0))) [] H) H fun t21_4 H => run S (.pick (.c t18_2)
  (.c (.bool true)) (.c t21_4)) [] H fun t22_5 H => gd t22_5 false (run S (.mv (.c a2)) [] H) H fun t24_6 H => gd t22_5 false (run S (.bin .gtr (.c t24_6) (.c (.int .i64
  1048576))) [] H) H fun t25_7 H => run S (.pick (.c t22_5) (.c (.bool true)) (.c t25_7)) [] H fun t26_8 H => jn (sq (fun e10 H => run S (.call 73 [(.c (e10 0))]) [] H
  fun t28_11 H => run S (.s2b 5 (.c (e10 1))) [] H fun t30_12 H => run S (.call 74 [(.c t30_12)]) [] H fun t31_13 H => jn (sq (fun e15 H => run S (.call 76 [(.c (e15
  9))]) [] H fun t49_16 H => run S (.mn (.c t49_16) [(.c (.int .i64 8))]) [] H fun t53_17 H => run S (.call 77 [(.c (e15 9)), (.c t53_17)]) [] H fun t54_18 H => run S
  (.xt (.c t54_18) 0) [] H fun t55_19 H => run S (.xt (.c t54_18) 1) [] H fun t56_20 H => run S (.bin .gtr (.c t49_16) (.c (.int .i64 7))) [] H fun t58_21 H => gd t58_21
  false (run S (.mv (.c t55_19)) [] H) H fun t60_22 H => gd t58_21 false (run S (.bin .neq (.c t60_22) (.c (.int .u32 0))) [] H) H fun t61_23 H => run S (.pick (.c
  t58_21) (.c (.bool true)) (.c t61_23)) [] H fun t62_24 H => jn (sq (fun e26 H => R (tup [(e26 10), (.bool true)]) H) (fn [(.t 6), (.t 7)] R)) fun Q25 => cnd t62_24
  (fun Q27 => Q27 .ret (upd (upd (upd (upd (upd (upd (upd (upd (upd (upd (upd (upd (upd (upd (upd (upd (upd (upd (upd (upd e15 48 (e15 9)) 49 t49_16) 13 t49_16) 51 (e15
  9)) 52 t49_16) 53 t53_17) 54 t54_18) 50 t54_18) 55 t55_19) 56 t56_20) 14 t55_19) 15 t56_20) 57 t49_16) 58 t58_21) 59 t58_21) 60 t60_22) 61 t61_23) 62 t62_24) 6 (.slice
  none 0 0)) 7 (.bool false)) H) (fun Q28 => Q28 .normal (upd (upd (upd (upd (upd (upd (upd (upd (upd (upd (upd (upd (upd (upd (upd (upd (upd (upd e15 48 (e15 9)) 49
  t49_16) 13 t49_16) 51 (e15 9)) 52 t49_16) 53 t53_17) 54 t54_18) 50 t54_18) 55 t55_19) 56 t56_20) 14 t55_19) 15 t56_20) 57 t49_16) 58 t58_21) 59 t58_21) 60 t60_22) 61
  t61_23) 62 t62_24) H) Q25) (fn [(.t 6), (.t 7)] R)) fun Q14 => jn (blk 0 Q14) fun Q29 => WL S b51_0 (upd (upd (upd (upd (upd (upd (upd (upd (upd (upd e10 27 (e10 0))
  28 t28_11) 29 (e10 1)) 30 t30_12) 31 t31_13) 8 t28_11) 9 t31_13) 10 (.slice none 0 0)) 32 (e10 2)) 33 (.int .i64 0)) H Q29) (fn [(.t 6), (.t 7)] R)) fun Q9 => cnd
  t26_8 (fun Q30 => Q30 .ret (upd (upd (upd (upd (upd (upd (upd (upd (upd (upd (upd (upd (upd (upd (upd (Env.get [a0, a1, a2]) 6 (.slice none 0 0)) 7 (.bool false)) 16
  a0) 17 t17_1) 18 t18_2) 19 t18_2) 20 t20_3) 21 t21_4) 22 t22_5) 23 t22_5) 24 t24_6) 25 t25_7) 26 t26_8) 6 (.slice none 0 0)) 7 (.bool false)) H) (fun Q31 => Q31
  .normal (upd (upd (upd (upd (upd (upd (upd (upd (upd (upd (upd (upd (upd (Env.get [a0, a1, a2]) 6 (.slice none 0 0)) 7 (.bool false)) 16 a0) 17 t17_1) 18 t18_2) 19
  t18_2) 20 t20_3) 21 t21_4) 22 t22_5) 23 t22_5) 24 t24_6) 25 t25_7) 26 t26_8) H) Q9
theorem h51 (S : Sys) (a0 a1 a2 : Value) (H : Heap) (R : Kv) : wpC S k51.body (Env.get [a0, a1, a2]) H (fn [(.t 6), (.t 7)] R) = s51 S a0 a1 a2 H R := by kernel_rfl
theorem w51 {S : Sys} (hR : S.R 51 = none) (hF : S.F 51 = some k51) (a0 a1 a2 : Value) {H : Heap} {R : Kv} (h : s51 S a0 a1 a2 H R) : Wf S 51 [a0, a1, a2] H R := Wf_sh
  hR hF ((h51 S a0 a1 a2 H R).mpr h)
def b57_0 : KCode := (.seq (.reg [(.op (some 14) none (.bin .lss (.t 13) (.t 12)))]) (.seq (.cond (.t 14) .skip (.exit 0)) (.seq (.block 1 (.seq (.reg [(.op (some 15)
  none (.iad 1 (.t 11) (.t 13))), (.op (some 16) none (.ld (.t 15))), (.op (some 7) none (.mv (.t 16)))]) (.seq (.reg [(.op (some 17) none (.mv (.t 7))), (.op (some 18)
  none (.bin .gtr (.t 17) (.c (.int .i64 0))))]) (.cond (.t 18) (.seq (.reg [(.op (some 19) none (.mv (.t 3))), (.op (some 20) none (.mv (.t 7))), (.op (some 21) none
  (.bin .sub (.c (.int .i64 11)) (.t 20))), (.op (some 22) none (.bin .shl (.c (.int .i64 1)) (.t 21))), (.op (some 23) none (.bin .sub (.t 19) (.t 22))), (.op (some 3)
  none (.mv (.t 23)))]) (.seq (.reg [(.op (some 24) none (.mv (.t 4))), (.op (some 25) none (.bin .add (.t 24) (.c (.int .i64 1)))), (.op (some 4) none (.mv (.t 25)))])
  (.reg [(.op (some 26) none (.mv (.t 7))), (.op (some 27) none (.bin .eql (.t 26) (.c (.int .i64 1)))), (.op (some 5) none (.mv (.t 27)))]))) .skip)))) (.reg [(.op
  (some 28) none (.bin .add (.t 13) (.c (.int .i64 1)))), (.op (some 13) none (.mv (.t 28)))]))))
def s57_0 (S : Sys) (e : Fe) (H : Heap) (Q : Kx) : Prop := run S (.bin .lss (.c (e 13)) (.c (e 12))) [] H fun t14_18 H => jn (sq (fun e20 H => jn (sq (fun e22 H => run S
  (.bin .add (.c (e22 13)) (.c (.int .i64 1))) [] H fun t28_23 H => Q .normal (upd (upd e22 28 t28_23) 13 t28_23) H) Q) fun Q21 => run S (.iad 1 (.c (e20 11)) (.c (e20
  13))) [] H fun t15_24 H => run S (.ld (.c t15_24)) [] H fun t16_25 H => run S (.bin .gtr (.c t16_25) (.c (.int .i64 0))) [] H fun t18_26 H => jn (blk 1 Q21) fun Q27 =>
  cnd t18_26 (fun Q28 => run S (.bin .sub (.c (.int .i64 11)) (.c t16_25)) [] H fun t21_30 H => run S (.bin .shl (.c (.int .i64 1)) (.c t21_30)) [] H fun t22_31 H => run
  S (.bin .sub (.c (e20 3)) (.c t22_31)) [] H fun t23_32 H => run S (.bin .add (.c (e20 4)) (.c (.int .i64 1))) [] H fun t25_33 H => run S (.bin .eql (.c t16_25) (.c
  (.int .i64 1))) [] H fun t27_34 H => Q28 .normal (upd (upd (upd (upd (upd (upd (upd (upd (upd (upd (upd (upd (upd (upd (upd (upd (upd e20 15 t15_24) 16 t16_25) 7
  t16_25) 17 t16_25) 18 t18_26) 19 (e20 3)) 20 t16_25) 21 t21_30) 22 t22_31) 23 t23_32) 3 t23_32) 24 (e20 4)) 25 t25_33) 4 t25_33) 26 t16_25) 27 t27_34) 5 t27_34) H)
  (fun Q29 => Q29 .normal (upd (upd (upd (upd (upd e20 15 t15_24) 16 t16_25) 7 t16_25) 17 t16_25) 18 t18_26) H) Q27) Q) fun Q19 => cnd t14_18 (fun Q35 => Q35 .normal
  (upd e 14 t14_18) H) (fun Q36 => Q36 (.exit 0) (upd e 14 t14_18) H) Q19
theorem h57_0 (S : Sys) (e : Fe) (H : Heap) (Q : Kx) : wpC S b57_0 e H Q = s57_0 S e H Q := by kernel_rfl
theorem l57_0 (S : Sys) {Q : Kx} (I : Nat → Fe → Heap → Prop) (d : Nat) {e0 : Fe} {H : Heap} (h0 : I d e0 H) (hr : ∀ (d : Nat) (e : Fe) (H : Heap), I d e H → s57_0 S e H
  (sq (fun e' H' => ∃ d', d' < d ∧ I d' e' H') Q)) : WL S b57_0 e0 H Q := WL_inv I d h0 fun d e H hi => (h57_0 S e H _).mpr (hr d e H hi)
theorem u57_0 (S : Sys) {Q : Kx} {e : Fe} {H : Heap} (h : s57_0 S e H (sq (fun e' H' => WL S b57_0 e' H' Q) Q)) : WL S b57_0 e H Q := WL_once ((h57_0 S e H _).mpr h)
def s57 (S : Sys) (a0 : Value) (H : Heap) (R : Kv) : Prop := run S (.call 87 [(.c a0)]) [] H fun t9_1 H => run S (.un .not (.c t9_1)) [] H fun t10_2 H => jn (sq (fun e4
  H => run S (.lenL (.c (e4 0))) [] H fun t12_5 H => jn (sq (fun e7 H => run S (.bin .eql (.c (e7 3)) (.c (.int .i64 0))) [] H fun t30_8 H => gd t30_8 false (run S (.mv
  (.c (e7 4))) [] H) H fun t32_9 H => gd t30_8 false (run S (.bin .eql (.c t32_9) (.c (.int .i64 1))) [] H) H fun t33_10 H => gd t30_8 false (run S (.mv (.c t33_10)) []
  H) H fun t34_11 H => gd t34_11 true (run S (.mv (.c (e7 5))) [] H) H fun t35_12 H => gd t30_8 false (run S (.pick (.c t34_11) (.c t35_12) (.c (.bool false))) [] H) H
  fun t36_13 H => run S (.pick (.c t30_8) (.c (.bool true)) (.c t36_13)) [] H fun t37_14 H => R t37_14 H) (fn [(.t 2)] R)) fun Q6 => jn (blk 0 Q6) fun Q15 => WL S b57_0
  (upd (upd (upd (upd (upd (upd e4 3 (.int .i64 2048)) 4 (.int .i64 0)) 5 (.bool false)) 11 (e4 0)) 12 t12_5) 13 (.int .i64 0)) H Q15) (fn [(.t 2)] R)) fun Q3 => cnd
  t10_2 (fun Q16 => Q16 .ret (upd (upd (upd (upd (upd (Env.get [a0]) 2 (.bool false)) 8 a0) 9 t9_1) 10 t10_2) 2 (.bool false)) H) (fun Q17 => Q17 .normal (upd (upd (upd
  (upd (Env.get [a0]) 2 (.bool false)) 8 a0) 9 t9_1) 10 t10_2) H) Q3
theorem h57 (S : Sys) (a0 : Value) (H : Heap) (R : Kv) : wpC S k57.body (Env.get [a0]) H (fn [(.t 2)] R) = s57 S a0 H R := by kernel_rfl
theorem w57 {S : Sys} (hR : S.R 57 = none) (hF : S.F 57 = some k57) (a0 : Value) {H : Heap} {R : Kv} (h : s57 S a0 H R) : Wf S 57 [a0] H R := Wf_sh hR hF ((h57 S a0 H
  R).mpr h)
def b58_0 : KCode := (.seq (.seq (.reg [(.op (some 6) none (.mv (.t 3))), (.op (some 7) none (.bin .gtr (.t 6) (.c (.int .i64 0)))), (.op (some 8) none (.mv (.t 7))),
  (.op (some 9) (some (8, true)) (.mv (.t 0))), (.op (some 10) (some (8, true)) (.mv (.t 3))), (.op (some 11) (some (8, true)) (.bin .sub (.t 10) (.c (.int .i64 1)))),
  (.op (some 12) (some (8, true)) (.iad 1 (.t 9) (.t 11))), (.op (some 13) (some (8, true)) (.ld (.t 12))), (.op (some 14) (some (8, true)) (.bin .eql (.t 13) (.c (.int
  .i64 0)))), (.op (some 15) none (.pick (.t 8) (.t 14) (.c (.bool false))))]) (.cond (.t 15) .skip (.exit 0))) (.block 1 (.reg [(.op (some 16) none (.mv (.t 3))), (.op
  (some 17) none (.bin .sub (.t 16) (.c (.int .i64 1)))), (.op (some 3) none (.mv (.t 17)))])))
def s58_0 (S : Sys) (e : Fe) (H : Heap) (Q : Kx) : Prop := run S (.bin .gtr (.c (e 3)) (.c (.int .i64 0))) [] H fun t7_6 H => gd t7_6 true (run S (.mv (.c (e 0))) [] H)
  H fun t9_7 H => gd t7_6 true (run S (.mv (.c (e 3))) [] H) H fun t10_8 H => gd t7_6 true (run S (.bin .sub (.c t10_8) (.c (.int .i64 1))) [] H) H fun t11_9 H => gd
  t7_6 true (run S (.iad 1 (.c t9_7) (.c t11_9)) [] H) H fun t12_10 H => gd t7_6 true (run S (.ld (.c t12_10)) [] H) H fun t13_11 H => gd t7_6 true (run S (.bin .eql (.c
  t13_11) (.c (.int .i64 0))) [] H) H fun t14_12 H => run S (.pick (.c t7_6) (.c t14_12) (.c (.bool false))) [] H fun t15_13 H => jn (sq (fun e15 H => run S (.bin .sub
  (.c (e15 3)) (.c (.int .i64 1))) [] H fun t17_16 H => Q .normal (upd (upd (upd e15 16 (e15 3)) 17 t17_16) 3 t17_16) H) Q) fun Q14 => cnd t15_13 (fun Q17 => Q17 .normal
  (upd (upd (upd (upd (upd (upd (upd (upd (upd (upd e 6 (e 3)) 7 t7_6) 8 t7_6) 9 t9_7) 10 t10_8) 11 t11_9) 12 t12_10) 13 t13_11) 14 t14_12) 15 t15_13) H) (fun Q18 => Q18
  (.exit 0) (upd (upd (upd (upd (upd (upd (upd (upd (upd (upd e 6 (e 3)) 7 t7_6) 8 t7_6) 9 t9_7) 10 t10_8) 11 t11_9) 12 t12_10) 13 t13_11) 14 t14_12) 15 t15_13) H) Q14
theorem h58_0 (S : Sys) (e : Fe) (H : Heap) (Q : Kx) : wpC S b58_0 e H Q = s58_0 S e H Q := by kernel_rfl
theorem l58_0 (S : Sys) {Q : Kx} (I : Nat → Fe → Heap → Prop) (d : Nat) {e0 : Fe} {H : Heap} (h0 : I d e0 H) (hr : ∀ (d : Nat) (e : Fe) (H : Heap), I d e H → s58_0 S e H
  (sq (fun e' H' => ∃ d', d' < d ∧ I d' e' H') Q)) : WL S b58_0 e0 H Q := WL_inv I d h0 fun d e H hi => (h58_0 S e H _).mpr (hr d e H hi)
theorem u58_0 (S : Sys) {Q : Kx} {e : Fe} {H : Heap} (h : s58_0 S e H (sq (fun e' H' => WL S b58_0 e' H' Q) Q)) : WL S b58_0 e H Q := WL_once ((h58_0 S e H _).mpr h)
def s58 (S : Sys) (a0 : Value) (H : Heap) (R : Kv) : Prop := run S (.lenL (.c a0)) [] H fun t5_1 H => jn (sq (fun e3 H => run S (.slc 3 1 (.c (e3 0)) none (some (.c (e3
  3)))) [] H fun t20_4 H => R t20_4 H) (fn [(.t 2)] R)) fun Q2 => jn (blk 0 Q2) fun Q5 => WL S b58_0 (upd (upd (upd (upd (Env.get [a0]) 2 (.slice none 0 0)) 4 a0) 5
  t5_1) 3 t5_1) H Q5
theorem h58 (S : Sys) (a0 : Value) (H : Heap) (R : Kv) : wpC S k58.body (Env.get [a0]) H (fn [(.t 2)] R) = s58 S a0 H R := by kernel_rfl
theorem w58 {S : Sys} (hR : S.R 58 = none) (hF : S.F 58 = some k58) (a0 : Value) {H : Heap} {R : Kv} (h : s58 S a0 H R) : Wf S 58 [a0] H R := Wf_sh hR hF ((h58 S a0 H
  R).mpr h)
def b59_1 : KCode := (.seq (.reg [(.op (some 22) none (.bin .lss (.t 21) (.t 20)))]) (.seq (.cond (.t 22) .skip (.exit 2)) (.seq (.block 3 (.seq (.reg [(.op (some 23)
  none (.mv (.t 21))), (.op (some 24) none (.iad 1 (.t 19) (.t 21))), (.op (some 25) none (.ld (.t 24))), (.op (some 7) none (.mv (.t 23))), (.op (some 8) none (.mv (.t
  25)))]) (.seq (.reg [(.op (some 26) none (.mv (.t 8))), (.op (some 27) none (.mv (.t 6))), (.op (some 28) none (.bin .eql (.t 26) (.t 27)))]) (.cond (.t 28) (.seq
  (.reg [(.op (some 29) none (.mv (.t 4))), (.op (some 30) none (.mv (.t 7))), (.op (some 31) none (.mv (.t 5))), (.op (some 32) none (.iad 1 (.t 29) (.t 30))), (.op
  none none (.st (.t 32) (.t 31)))]) (.reg [(.op (some 33) none (.mv (.t 5))), (.op (some 34) none (.bin .add (.t 33) (.c (.int .i64 1)))), (.op (some 5) none (.mv (.t
  34)))])) .skip)))) (.reg [(.op (some 35) none (.bin .add (.t 21) (.c (.int .i64 1)))), (.op (some 21) none (.mv (.t 35)))]))))
def s59_1 (S : Sys) (e : Fe) (H : Heap) (Q : Kx) : Prop := run S (.bin .lss (.c (e 21)) (.c (e 20))) [] H fun t22_26 H => jn (sq (fun e28 H => jn (sq (fun e30 H => run S
  (.bin .add (.c (e30 21)) (.c (.int .i64 1))) [] H fun t35_31 H => Q .normal (upd (upd e30 35 t35_31) 21 t35_31) H) Q) fun Q29 => run S (.iad 1 (.c (e28 19)) (.c (e28
  21))) [] H fun t24_32 H => run S (.ld (.c t24_32)) [] H fun t25_33 H => run S (.bin .eql (.c t25_33) (.c (e28 6))) [] H fun t28_34 H => jn (blk 3 Q29) fun Q35 => cnd
  t28_34 (fun Q36 => run S (.iad 1 (.c (e28 4)) (.c (e28 21))) [] H fun t32_38 H => run S (.st (.c t32_38) (.c (e28 5))) [] H fun _ H => run S (.bin .add (.c (e28 5))
  (.c (.int .i64 1))) [] H fun t34_39 H => Q36 .normal (upd (upd (upd (upd (upd (upd (upd (upd (upd (upd (upd (upd (upd (upd (upd e28 23 (e28 21)) 24 t24_32) 25 t25_33)
  7 (e28 21)) 8 t25_33) 26 t25_33) 27 (e28 6)) 28 t28_34) 29 (e28 4)) 30 (e28 21)) 31 (e28 5)) 32 t32_38) 33 (e28 5)) 34 t34_39) 5 t34_39) H) (fun Q37 => Q37 .normal
  (upd (upd (upd (upd (upd (upd (upd (upd e28 23 (e28 21)) 24 t24_32) 25 t25_33) 7 (e28 21)) 8 t25_33) 26 t25_33) 27 (e28 6)) 28 t28_34) H) Q35) Q) fun Q27 => cnd t22_26
  (fun Q40 => Q40 .normal (upd e 22 t22_26) H) (fun Q41 => Q41 (.exit 2) (upd e 22 t22_26) H) Q27
theorem h59_1 (S : Sys) (e : Fe) (H : Heap) (Q : Kx) : wpC S b59_1 e H Q = s59_1 S e H Q := by kernel_rfl
theorem l59_1 (S : Sys) {Q : Kx} (I : Nat → Fe → Heap → Prop) (d : Nat) {e0 : Fe} {H : Heap} (h0 : I d e0 H) (hr : ∀ (d : Nat) (e : Fe) (H : Heap), I d e H → s59_1 S e H
  (sq (fun e' H' => ∃ d', d' < d ∧ I d' e' H') Q)) : WL S b59_1 e0 H Q := WL_inv I d h0 fun d e H hi => (h59_1 S e H _).mpr (hr d e H hi)
theorem u59_1 (S : Sys) {Q : Kx} {e : Fe} {H : Heap} (h : s59_1 S e H (sq (fun e' H' => WL S b59_1 e' H' Q) Q)) : WL S b59_1 e H Q := WL_once ((h59_1 S e H _).mpr h)
def b59_0 : KCode := (.seq (.seq (.reg [(.op (some 15) none (.mv (.t 6))), (.op (some 16) none (.bin .leq (.t 15) (.c (.int .i64 11))))]) (.cond (.t 16) .skip (.exit
  0))) (.seq (.block 1 (.seq (.seq (.reg [(.op (some 19) none (.mv (.t 0))), (.op (some 20) none (.lenL (.t 19))), (.op (some 21) none (.mv (.c (.int .i64 0))))])
  (.block 2 (.loop (.seq (.reg [(.op (some 22) none (.bin .lss (.t 21) (.t 20)))]) (.seq (.cond (.t 22) .skip (.exit 2)) (.seq (.block 3 (.seq (.reg [(.op (some 23) none
  (.mv (.t 21))), (.op (some 24) none (.iad 1 (.t 19) (.t 21))), (.op (some 25) none (.ld (.t 24))), (.op (some 7) none (.mv (.t 23))), (.op (some 8) none (.mv (.t
  25)))]) (.seq (.reg [(.op (some 26) none (.mv (.t 8))), (.op (some 27) none (.mv (.t 6))), (.op (some 28) none (.bin .eql (.t 26) (.t 27)))]) (.cond (.t 28) (.seq
  (.reg [(.op (some 29) none (.mv (.t 4))), (.op (some 30) none (.mv (.t 7))), (.op (some 31) none (.mv (.t 5))), (.op (some 32) none (.iad 1 (.t 29) (.t 30))), (.op
  none none (.st (.t 32) (.t 31)))]) (.reg [(.op (some 33) none (.mv (.t 5))), (.op (some 34) none (.bin .add (.t 33) (.c (.int .i64 1)))), (.op (some 5) none (.mv (.t
  34)))])) .skip)))) (.reg [(.op (some 35) none (.bin .add (.t 21) (.c (.int .i64 1)))), (.op (some 21) none (.mv (.t 35)))]))))))) (.reg [(.op (some 36) none (.mv (.t
  5))), (.op (some 37) none (.bin .shl (.t 36) (.c (.int .u64 1)))), (.op (some 5) none (.mv (.t 37)))]))) (.reg [(.op (some 17) none (.mv (.t 6))), (.op (some 18) none
  (.bin .add (.t 17) (.c (.int .i64 1)))), (.op (some 6) none (.mv (.t 18)))])))
def s59_0 (S : Sys) (e : Fe) (H : Heap) (Q : Kx) : Prop := run S (.bin .leq (.c (e 6)) (.c (.int .i64 11))) [] H fun t16_12 H => jn (sq (fun e14 H => jn (sq (fun e16 H
  => run S (.bin .add (.c (e16 6)) (.c (.int .i64 1))) [] H fun t18_17 H => Q .normal (upd (upd (upd e16 17 (e16 6)) 18 t18_17) 6 t18_17) H) Q) fun Q15 => run S (.lenL
  (.c (e14 0))) [] H fun t20_18 H => jn (blk 1 Q15) fun Q19 => jn (sq (fun e21 H => run S (.bin .shl (.c (e21 5)) (.c (.int .u64 1))) [] H fun t37_22 H => Q19 .normal
  (upd (upd (upd e21 36 (e21 5)) 37 t37_22) 5 t37_22) H) Q19) fun Q20 => jn (blk 2 Q20) fun Q23 => WL S b59_1 (upd (upd (upd e14 19 (e14 0)) 20 t20_18) 21 (.int .i64 0))
  H Q23) Q) fun Q13 => cnd t16_12 (fun Q24 => Q24 .normal (upd (upd e 15 (e 6)) 16 t16_12) H) (fun Q25 => Q25 (.exit 0) (upd (upd e 15 (e 6)) 16 t16_12) H) Q13
theorem h59_0 (S : Sys) (e : Fe) (H : Heap) (Q : Kx) : wpC S b59_0 e H Q = s59_0 S e H Q := by kernel_rfl
theorem l59_0 (S : Sys) {Q : Kx} (I : Nat → Fe → Heap → Prop) (d : Nat) {e0 : Fe} {H : Heap} (h0 : I d e0 H) (hr : ∀ (d : Nat) (e : Fe) (H : Heap), I d e H → s59_0 S e H
  (sq (fun e' H' => ∃ d', d' < d ∧ I d' e' H') Q)) : WL S b59_0 e0 H Q := WL_inv I d h0 fun d e H hi => (h59_0 S e H _).mpr (hr d e H hi)
theorem u59_0 (S : Sys) {Q : Kx} {e : Fe} {H : Heap} (h : s59_0 S e H (sq (fun e' H' => WL S b59_0 e' H' Q) Q)) : WL S b59_0 e H Q := WL_once ((h59_0 S e H _).mpr h)
def s59 (S : Sys) (a0 : Value) (H : Heap) (R : Kv) : Prop := run S (.call 57 [(.c a0)]) [] H fun t10_1 H => run S (.un .not (.c t10_1)) [] H fun t11_2 H => jn (sq (fun
  e4 H => run S (.lenL (.c (e4 0))) [] H fun t13_5 H => run S (.mks 3 [(.int .i64 0)] 8 (.c t13_5) (.c t13_5)) [] H fun t14_6 H => jn (sq (fun e8 H => R (tup [(e8 4),
  (.bool true)]) H) (fn [(.t 2), (.t 3)] R)) fun Q7 => jn (blk 0 Q7) fun Q9 => WL S b59_0 (upd (upd (upd (upd (upd (upd e4 12 (e4 0)) 13 t13_5) 14 t14_6) 4 t14_6) 5
  (.int .i64 0)) 6 (.int .i64 1)) H Q9) (fn [(.t 2), (.t 3)] R)) fun Q3 => cnd t11_2 (fun Q10 => Q10 .ret (upd (upd (upd (upd (upd (upd (upd (Env.get [a0]) 2 (.slice
  none 0 0)) 3 (.bool false)) 9 a0) 10 t10_1) 11 t11_2) 2 (.slice none 0 0)) 3 (.bool false)) H) (fun Q11 => Q11 .normal (upd (upd (upd (upd (upd (Env.get [a0]) 2
  (.slice none 0 0)) 3 (.bool false)) 9 a0) 10 t10_1) 11 t11_2) H) Q3
theorem h59 (S : Sys) (a0 : Value) (H : Heap) (R : Kv) : wpC S k59.body (Env.get [a0]) H (fn [(.t 2), (.t 3)] R) = s59 S a0 H R := by kernel_rfl
theorem w59 {S : Sys} (hR : S.R 59 = none) (hF : S.F 59 = some k59) (a0 : Value) {H : Heap} {R : Kv} (h : s59 S a0 H R) : Wf S 59 [a0] H R := Wf_sh hR hF ((h59 S a0 H
  R).mpr h)
def b60_0 : KCode := (.seq (.seq (.reg [(.op (some 16) none (.mv (.t 2))), (.op (some 17) none (.bin .gtr (.t 16) (.c (.int .i64 0))))]) (.cond (.t 17) .skip (.exit 0)))
  (.block 1 (.seq (.reg [(.op (some 18) none (.mv (.t 0))), (.op (some 19) none (.nck (.t 18))), (.op (some 20) none (.fad 1 (.t 19))), (.op (some 21) none (.ld (.t
  20))), (.op (some 22) none (.bin .and (.t 21) (.c (.int .i64 7)))), (.op (some 7) none (.mv (.t 22)))]) (.seq (.seq (.reg [(.op (some 23) none (.mv (.t 7))), (.op
  (some 24) none (.bin .eql (.t 23) (.c (.int .i64 0))))]) (.cond (.t 24) (.reg [(.op (some 25) none (.mv (.t 0))), (.op (some 26) none (.mv (.t 0))), (.op (some 27)
  none (.nck (.t 26))), (.op (some 28) none (.fad 0 (.t 27))), (.op (some 29) none (.ld (.t 28))), (.op (some 30) none (.bsl 5 1 [(.int .u8 0)] [(0, (1, (.c (.int .u8
  0))))])), (.op (some 31) none (.app 5 1 1 (.t 29) (.t 30))), (.op (some 32) none (.nck (.t 25))), (.op (some 33) none (.fad 0 (.t 32))), (.op none none (.st (.t 33)
  (.t 31)))]) .skip)) (.seq (.reg [(.op (some 34) none (.mv (.t 2))), (.op (some 35) none (.mv (.t 7))), (.op (some 36) none (.bin .sub (.c (.int .i64 8)) (.t 35))),
  (.op (some 37) none (.mn (.t 34) [(.t 36)])), (.op (some 8) none (.mv (.t 37)))]) (.seq (.reg [(.op (some 38) none (.mv (.t 0))), (.op (some 39) none (.nck (.t 38))),
  (.op (some 40) none (.fad 0 (.t 39))), (.op (some 41) none (.ld (.t 40))), (.op (some 42) none (.mv (.t 0))), (.op (some 43) none (.nck (.t 42))), (.op (some 44) none
  (.fad 0 (.t 43))), (.op (some 45) none (.ld (.t 44))), (.op (some 46) none (.lenL (.t 45))), (.op (some 47) none (.bin .sub (.t 46) (.c (.int .i64 1)))), (.op (some
  48) none (.iad 1 (.t 41) (.t 47))), (.op (some 49) none (.ld (.t 48))), (.op (some 50) none (.mv (.t 1))), (.op (some 51) none (.mv (.t 8))), (.op (some 52) none (.bin
  .shl (.c (.int .u32 1)) (.t 51))), (.op (some 53) none (.bin .sub (.t 52) (.c (.int .u32 1)))), (.op (some 54) none (.bin .and (.t 50) (.t 53))), (.op (some 55) none
  (.cvt .u8 (.t 54))), (.op (some 56) none (.mv (.t 7))), (.op (some 57) none (.bin .shl (.t 55) (.t 56))), (.op (some 58) none (.bin .or (.t 49) (.t 57))), (.op (some
  59) none (.iad 1 (.t 41) (.t 47))), (.op none none (.st (.t 59) (.t 58)))]) (.seq (.reg [(.op (some 60) none (.mv (.t 1))), (.op (some 61) none (.mv (.t 8))), (.op
  (some 62) none (.bin .shr (.t 60) (.t 61))), (.op (some 1) none (.mv (.t 62)))]) (.seq (.reg [(.op (some 63) none (.mv (.t 0))), (.op (some 64) none (.nck (.t 63))),
  (.op (some 65) none (.fad 1 (.t 64))), (.op (some 66) none (.ld (.t 65))), (.op (some 67) none (.mv (.t 8))), (.op (some 68) none (.bin .add (.t 66) (.t 67))), (.op
  (some 69) none (.nck (.t 63))), (.op (some 70) none (.fad 1 (.t 69))), (.op none none (.st (.t 70) (.t 68)))]) (.reg [(.op (some 71) none (.mv (.t 2))), (.op (some 72)
  none (.mv (.t 8))), (.op (some 73) none (.bin .sub (.t 71) (.t 72))), (.op (some 2) none (.mv (.t 73)))])))))))))
def s60_0 (S : Sys) (e : Fe) (H : Heap) (Q : Kx) : Prop := run S (.bin .gtr (.c (e 2)) (.c (.int .i64 0))) [] H fun t17_13 H => jn (sq (fun e15 H => run S (.nck (.c (e15
  0))) [] H fun t19_16 H => run S (.fad 1 (.c t19_16)) [] H fun t20_17 H => run S (.ld (.c t20_17)) [] H fun t21_18 H => run S (.bin .and (.c t21_18) (.c (.int .i64 7)))
  [] H fun t22_19 H => run S (.bin .eql (.c t22_19) (.c (.int .i64 0))) [] H fun t24_20 H => jn (blk 1 Q) fun Q21 => jn (sq (fun e23 H => run S (.bin .sub (.c (.int .i64
  8)) (.c (e23 7))) [] H fun t36_24 H => run S (.mn (.c (e23 2)) [(.c t36_24)]) [] H fun t37_25 H => run S (.nck (.c (e23 0))) [] H fun t39_26 H => run S (.fad 0 (.c
  t39_26)) [] H fun t40_27 H => run S (.ld (.c t40_27)) [] H fun t41_28 H => run S (.nck (.c (e23 0))) [] H fun t43_29 H => run S (.fad 0 (.c t43_29)) [] H fun t44_30 H
  => run S (.ld (.c t44_30)) [] H fun t45_31 H => run S (.lenL (.c t45_31)) [] H fun t46_32 H => run S (.bin .sub (.c t46_32) (.c (.int .i64 1))) [] H fun t47_33 H =>
  run S (.iad 1 (.c t41_28) (.c t47_33)) [] H fun t48_34 H => run S (.ld (.c t48_34)) [] H fun t49_35 H => run S (.bin .shl (.c (.int .u32 1)) (.c t37_25)) [] H fun
  t52_36 H => run S (.bin .sub (.c t52_36) (.c (.int .u32 1))) [] H fun t53_37 H => run S (.bin .and (.c (e23 1)) (.c t53_37)) [] H fun t54_38 H => run S (.cvt .u8 (.c
  t54_38)) [] H fun t55_39 H => run S (.bin .shl (.c t55_39) (.c (e23 7))) [] H fun t57_40 H => run S (.bin .or (.c t49_35) (.c t57_40)) [] H fun t58_41 H => run S (.iad
  1 (.c t41_28) (.c t47_33)) [] H fun t59_42 H => run S (.st (.c t59_42) (.c t58_41)) [] H fun _ H => run S (.bin .shr (.c (e23 1)) (.c t37_25)) [] H fun t62_43 H => run
  S (.nck (.c (e23 0))) [] H fun t64_44 H => run S (.fad 1 (.c t64_44)) [] H fun t65_45 H => run S (.ld (.c t65_45)) [] H fun t66_46 H => run S (.bin .add (.c t66_46)
  (.c t37_25)) [] H fun t68_47 H => run S (.nck (.c (e23 0))) [] H fun t69_48 H => run S (.fad 1 (.c t69_48)) [] H fun t70_49 H => run S (.st (.c t70_49) (.c t68_47)) []
  H fun _ H => run S (.bin .sub (.c (e23 2)) (.c t37_25)) [] H fun t73_50 H => Q21 .normal (upd (upd (upd (upd (upd (upd (upd (upd (upd (upd (upd (upd (upd (upd (upd
  (upd (upd (upd (upd (upd (upd (upd (upd (upd (upd (upd (upd (upd (upd (upd (upd (upd (upd (upd (upd (upd (upd (upd (upd (upd (upd (upd (upd e23 34 (e23 2)) 35 (e23 7))
  36 t36_24) 37 t37_25) 8 t37_25) 38 (e23 0)) 39 t39_26) 40 t40_27) 41 t41_28) 42 (e23 0)) 43 t43_29) 44 t44_30) 45 t45_31) 46 t46_32) 47 t47_33) 48 t48_34) 49 t49_35)
  50 (e23 1)) 51 t37_25) 52 t52_36) 53 t53_37) 54 t54_38) 55 t55_39) 56 (e23 7)) 57 t57_40) 58 t58_41) 59 t59_42) 60 (e23 1)) 61 t37_25) 62 t62_43) 1 t62_43) 63 (e23 0))
  64 t64_44) 65 t65_45) 66 t66_46) 67 t37_25) 68 t68_47) 69 t69_48) 70 t70_49) 71 (e23 2)) 72 t37_25) 73 t73_50) 2 t73_50) H) Q21) fun Q22 => cnd t24_20 (fun Q51 => run
  S (.nck (.c (e15 0))) [] H fun t27_53 H => run S (.fad 0 (.c t27_53)) [] H fun t28_54 H => run S (.ld (.c t28_54)) [] H fun t29_55 H => run S (.bsl 5 1 [(.int .u8 0)]
  [(0, (1, (.c (.int .u8 0))))]) [] H fun t30_56 H => run S (.app 5 1 1 (.c t29_55) (.c t30_56)) [] H fun t31_57 H => run S (.nck (.c (e15 0))) [] H fun t32_58 H => run
  S (.fad 0 (.c t32_58)) [] H fun t33_59 H => run S (.st (.c t33_59) (.c t31_57)) [] H fun _ H => Q51 .normal (upd (upd (upd (upd (upd (upd (upd (upd (upd (upd (upd (upd
  (upd (upd (upd (upd (upd e15 18 (e15 0)) 19 t19_16) 20 t20_17) 21 t21_18) 22 t22_19) 7 t22_19) 23 t22_19) 24 t24_20) 25 (e15 0)) 26 (e15 0)) 27 t27_53) 28 t28_54) 29
  t29_55) 30 t30_56) 31 t31_57) 32 t32_58) 33 t33_59) H) (fun Q52 => Q52 .normal (upd (upd (upd (upd (upd (upd (upd (upd e15 18 (e15 0)) 19 t19_16) 20 t20_17) 21 t21_18)
  22 t22_19) 7 t22_19) 23 t22_19) 24 t24_20) H) Q22) Q) fun Q14 => cnd t17_13 (fun Q60 => Q60 .normal (upd (upd e 16 (e 2)) 17 t17_13) H) (fun Q61 => Q61 (.exit 0) (upd
  (upd e 16 (e 2)) 17 t17_13) H) Q14
theorem h60_0 (S : Sys) (e : Fe) (H : Heap) (Q : Kx) : wpC S b60_0 e H Q = s60_0 S e H Q := by kernel_rfl
theorem l60_0 (S : Sys) {Q : Kx} (I : Nat → Fe → Heap → Prop) (d : Nat) {e0 : Fe} {H : Heap} (h0 : I d e0 H) (hr : ∀ (d : Nat) (e : Fe) (H : Heap), I d e H → s60_0 S e H
  (sq (fun e' H' => ∃ d', d' < d ∧ I d' e' H') Q)) : WL S b60_0 e0 H Q := WL_inv I d h0 fun d e H hi => (h60_0 S e H _).mpr (hr d e H hi)
theorem u60_0 (S : Sys) {Q : Kx} {e : Fe} {H : Heap} (h : s60_0 S e H (sq (fun e' H' => WL S b60_0 e' H' Q) Q)) : WL S b60_0 e H Q := WL_once ((h60_0 S e H _).mpr h)
def s60 (S : Sys) (a0 a1 a2 : Value) (H : Heap) (R : Kv) : Prop := run S (.eqv .ptr false (.c a0) (.c (.pointer none))) [] H fun t10_1 H => gd t10_1 false (run S (.mv
  (.c a2)) [] H) H fun t12_2 H => gd t10_1 false (run S (.call 88 [(.c t12_2)]) [] H) H fun t13_3 H => gd t10_1 false (run S (.un .not (.c t13_3)) [] H) H fun t14_4 H =>
  run S (.pick (.c t10_1) (.c (.bool true)) (.c t14_4)) [] H fun t15_5 H => jn (sq (fun e7 H => jn (sq (fun e9 H => R (.bool true) H) (fn [(.t 6)] R)) fun Q8 => jn (blk
  0 Q8) fun Q10 => WL S b60_0 e7 H Q10) (fn [(.t 6)] R)) fun Q6 => cnd t15_5 (fun Q11 => Q11 .ret (upd (upd (upd (upd (upd (upd (upd (upd (upd (Env.get [a0, a1, a2]) 6
  (.bool false)) 9 a0) 10 t10_1) 11 t10_1) 12 t12_2) 13 t13_3) 14 t14_4) 15 t15_5) 6 (.bool false)) H) (fun Q12 => Q12 .normal (upd (upd (upd (upd (upd (upd (upd (upd
  (Env.get [a0, a1, a2]) 6 (.bool false)) 9 a0) 10 t10_1) 11 t10_1) 12 t12_2) 13 t13_3) 14 t14_4) 15 t15_5) H) Q6
theorem h60 (S : Sys) (a0 a1 a2 : Value) (H : Heap) (R : Kv) : wpC S k60.body (Env.get [a0, a1, a2]) H (fn [(.t 6)] R) = s60 S a0 a1 a2 H R := by kernel_rfl
theorem w60 {S : Sys} (hR : S.R 60 = none) (hF : S.F 60 = some k60) (a0 a1 a2 : Value) {H : Heap} {R : Kv} (h : s60 S a0 a1 a2 H R) : Wf S 60 [a0, a1, a2] H R := Wf_sh
  hR hF ((h60 S a0 a1 a2 H R).mpr h)
def b61_0 : KCode := (.seq (.reg [(.op (some 8) none (.bin .lss (.t 7) (.t 6)))]) (.seq (.cond (.t 8) .skip (.exit 0)) (.seq (.block 1 (.seq (.reg [(.op (some 9) none
  (.mv (.t 5))), (.op (some 10) none (.bin .shl (.t 9) (.c (.int .u64 1)))), (.op (some 11) none (.mv (.t 0))), (.op (some 12) none (.bin .and (.t 11) (.c (.int .i64
  1)))), (.op (some 13) none (.cvt .u32 (.t 12))), (.op (some 14) none (.bin .or (.t 10) (.t 13))), (.op (some 5) none (.mv (.t 14)))]) (.reg [(.op (some 15) none (.mv
  (.t 0))), (.op (some 16) none (.bin .shr (.t 15) (.c (.int .u64 1)))), (.op (some 0) none (.mv (.t 16)))]))) (.reg [(.op (some 17) none (.bin .add (.t 7) (.c (.int
  .i64 1)))), (.op (some 7) none (.mv (.t 17)))]))))
def s61_0 (S : Sys) (e : Fe) (H : Heap) (Q : Kx) : Prop := run S (.bin .lss (.c (e 7)) (.c (e 6))) [] H fun t8_4 H => jn (sq (fun e6 H => jn (sq (fun e8 H => run S (.bin
  .add (.c (e8 7)) (.c (.int .i64 1))) [] H fun t17_9 H => Q .normal (upd (upd e8 17 t17_9) 7 t17_9) H) Q) fun Q7 => run S (.bin .shl (.c (e6 5)) (.c (.int .u64 1))) []
  H fun t10_10 H => run S (.bin .and (.c (e6 0)) (.c (.int .i64 1))) [] H fun t12_11 H => run S (.cvt .u32 (.c t12_11)) [] H fun t13_12 H => run S (.bin .or (.c t10_10)
  (.c t13_12)) [] H fun t14_13 H => run S (.bin .shr (.c (e6 0)) (.c (.int .u64 1))) [] H fun t16_14 H => Q7 .normal (upd (upd (upd (upd (upd (upd (upd (upd (upd (upd e6
  9 (e6 5)) 10 t10_10) 11 (e6 0)) 12 t12_11) 13 t13_12) 14 t14_13) 5 t14_13) 15 (e6 0)) 16 t16_14) 0 t16_14) H) Q) fun Q5 => cnd t8_4 (fun Q15 => Q15 .normal (upd e 8
  t8_4) H) (fun Q16 => Q16 (.exit 0) (upd e 8 t8_4) H) Q5
theorem h61_0 (S : Sys) (e : Fe) (H : Heap) (Q : Kx) : wpC S b61_0 e H Q = s61_0 S e H Q := by kernel_rfl
theorem l61_0 (S : Sys) {Q : Kx} (I : Nat → Fe → Heap → Prop) (d : Nat) {e0 : Fe} {H : Heap} (h0 : I d e0 H) (hr : ∀ (d : Nat) (e : Fe) (H : Heap), I d e H → s61_0 S e H
  (sq (fun e' H' => ∃ d', d' < d ∧ I d' e' H') Q)) : WL S b61_0 e0 H Q := WL_inv I d h0 fun d e H hi => (h61_0 S e H _).mpr (hr d e H hi)
theorem u61_0 (S : Sys) {Q : Kx} {e : Fe} {H : Heap} (h : s61_0 S e H (sq (fun e' H' => WL S b61_0 e' H' Q) Q)) : WL S b61_0 e H Q := WL_once ((h61_0 S e H _).mpr h)
def s61 (S : Sys) (a0 a1 : Value) (H : Heap) (R : Kv) : Prop := jn (sq (fun e2 H => R (e2 5) H) (fn [(.t 4)] R)) fun Q1 => jn (blk 0 Q1) fun Q3 => WL S b61_0 (upd (upd
  (upd (upd (Env.get [a0, a1]) 4 (.int .u32 0)) 5 (.int .u32 0)) 6 a1) 7 (.int .i64 0)) H Q3
theorem h61 (S : Sys) (a0 a1 : Value) (H : Heap) (R : Kv) : wpC S k61.body (Env.get [a0, a1]) H (fn [(.t 4)] R) = s61 S a0 a1 H R := by kernel_rfl
theorem w61 {S : Sys} (hR : S.R 61 = none) (hF : S.F 61 = some k61) (a0 a1 : Value) {H : Heap} {R : Kv} (h : s61 S a0 a1 H R) : Wf S 61 [a0, a1] H R := Wf_sh hR hF ((h61
  S a0 a1 H R).mpr h)
def s62 (S : Sys) (a0 : Value) (H : Heap) (R : Kv) : Prop := run S (.eqv .ptr false (.c a0) (.c (.pointer none))) [] H fun t4_1 H => jn (sq (fun e3 H => run S (.nck (.c
  (e3 0))) [] H fun t6_4 H => run S (.fad 0 (.c t6_4)) [] H fun t7_5 H => run S (.ld (.c t7_5)) [] H fun t8_6 H => run S (.app 5 1 1 (.c (.slice none 0 0)) (.c t8_6)) []
  H fun t9_7 H => R t9_7 H) (fn [(.t 2)] R)) fun Q2 => cnd t4_1 (fun Q8 => Q8 .ret (upd (upd (upd (upd (Env.get [a0]) 2 (.slice none 0 0)) 3 a0) 4 t4_1) 2 (.slice none 0
  0)) H) (fun Q9 => Q9 .normal (upd (upd (upd (Env.get [a0]) 2 (.slice none 0 0)) 3 a0) 4 t4_1) H) Q2
theorem h62 (S : Sys) (a0 : Value) (H : Heap) (R : Kv) : wpC S k62.body (Env.get [a0]) H (fn [(.t 2)] R) = s62 S a0 H R := by kernel_rfl
theorem w62 {S : Sys} (hR : S.R 62 = none) (hF : S.F 62 = some k62) (a0 : Value) {H : Heap} {R : Kv} (h : s62 S a0 H R) : Wf S 62 [a0] H R := Wf_sh hR hF ((h62 S a0 H
  R).mpr h)
def b63_0 : KCode := (.seq (.seq (.reg [(.op (some 4) none (.mv (.t 3))), (.op (some 5) none (.mv (.t 0))), (.op (some 6) none (.lenL (.t 5))), (.op (some 7) none (.bin
  .lss (.t 4) (.t 6)))]) (.cond (.t 7) .skip (.exit 0))) (.seq (.block 1 (.seq (.reg [(.op (some 10) none (.mv (.t 0))), (.op (some 11) none (.mv (.t 3))), (.op (some
  12) none (.iad 1 (.t 10) (.t 11))), (.op (some 13) none (.ld (.t 12))), (.op (some 14) none (.bin .lss (.t 13) (.c (.int .i64 0)))), (.op (some 15) none (.mv (.t
  14))), (.op (some 16) (some (15, false)) (.mv (.t 0))), (.op (some 17) (some (15, false)) (.mv (.t 3))), (.op (some 18) (some (15, false)) (.iad 1 (.t 16) (.t 17))),
  (.op (some 19) (some (15, false)) (.ld (.t 18))), (.op (some 20) (some (15, false)) (.bin .gtr (.t 19) (.c (.int .i64 11)))), (.op (some 21) none (.pick (.t 15) (.c
  (.bool true)) (.t 20)))]) (.cond (.t 21) (.seq (.reg [(.op (some 2) none (.mv (.c (.bool false))))]) .ret) .skip))) (.reg [(.op (some 8) none (.mv (.t 3))), (.op (some
  9) none (.bin .add (.t 8) (.c (.int .i64 1)))), (.op (some 3) none (.mv (.t 9)))])))
def s63_0 (S : Sys) (e : Fe) (H : Heap) (Q : Kx) : Prop := run S (.lenL (.c (e 0))) [] H fun t6_6 H => run S (.bin .lss (.c (e 3)) (.c t6_6)) [] H fun t7_7 H => jn (sq
  (fun e9 H => jn (sq (fun e11 H => run S (.bin .add (.c (e11 3)) (.c (.int .i64 1))) [] H fun t9_12 H => Q .normal (upd (upd (upd e11 8 (e11 3)) 9 t9_12) 3 t9_12) H) Q)
  fun Q10 => run S (.iad 1 (.c (e9 0)) (.c (e9 3))) [] H fun t12_13 H => run S (.ld (.c t12_13)) [] H fun t13_14 H => run S (.bin .lss (.c t13_14) (.c (.int .i64 0))) []
  H fun t14_15 H => gd t14_15 false (run S (.mv (.c (e9 0))) [] H) H fun t16_16 H => gd t14_15 false (run S (.mv (.c (e9 3))) [] H) H fun t17_17 H => gd t14_15 false
  (run S (.iad 1 (.c t16_16) (.c t17_17)) [] H) H fun t18_18 H => gd t14_15 false (run S (.ld (.c t18_18)) [] H) H fun t19_19 H => gd t14_15 false (run S (.bin .gtr (.c
  t19_19) (.c (.int .i64 11))) [] H) H fun t20_20 H => run S (.pick (.c t14_15) (.c (.bool true)) (.c t20_20)) [] H fun t21_21 H => jn (blk 1 Q10) fun Q22 => cnd t21_21
  (fun Q23 => Q23 .ret (upd (upd (upd (upd (upd (upd (upd (upd (upd (upd (upd (upd (upd e9 10 (e9 0)) 11 (e9 3)) 12 t12_13) 13 t13_14) 14 t14_15) 15 t14_15) 16 t16_16)
  17 t17_17) 18 t18_18) 19 t19_19) 20 t20_20) 21 t21_21) 2 (.bool false)) H) (fun Q24 => Q24 .normal (upd (upd (upd (upd (upd (upd (upd (upd (upd (upd (upd (upd e9 10
  (e9 0)) 11 (e9 3)) 12 t12_13) 13 t13_14) 14 t14_15) 15 t14_15) 16 t16_16) 17 t17_17) 18 t18_18) 19 t19_19) 20 t20_20) 21 t21_21) H) Q22) Q) fun Q8 => cnd t7_7 (fun Q25
  => Q25 .normal (upd (upd (upd (upd e 4 (e 3)) 5 (e 0)) 6 t6_6) 7 t7_7) H) (fun Q26 => Q26 (.exit 0) (upd (upd (upd (upd e 4 (e 3)) 5 (e 0)) 6 t6_6) 7 t7_7) H) Q8
theorem h63_0 (S : Sys) (e : Fe) (H : Heap) (Q : Kx) : wpC S b63_0 e H Q = s63_0 S e H Q := by kernel_rfl
theorem l63_0 (S : Sys) {Q : Kx} (I : Nat → Fe → Heap → Prop) (d : Nat) {e0 : Fe} {H : Heap} (h0 : I d e0 H) (hr : ∀ (d : Nat) (e : Fe) (H : Heap), I d e H → s63_0 S e H
  (sq (fun e' H' => ∃ d', d' < d ∧ I d' e' H') Q)) : WL S b63_0 e0 H Q := WL_inv I d h0 fun d e H hi => (h63_0 S e H _).mpr (hr d e H hi)
theorem u63_0 (S : Sys) {Q : Kx} {e : Fe} {H : Heap} (h : s63_0 S e H (sq (fun e' H' => WL S b63_0 e' H' Q) Q)) : WL S b63_0 e H Q := WL_once ((h63_0 S e H _).mpr h)
def s63 (S : Sys) (a0 : Value) (H : Heap) (R : Kv) : Prop := jn (sq (fun e2 H => run S (.lenL (.c (e2 0))) [] H fun t23_3 H => run S (.bin .leq (.c t23_3) (.c (.int .i64
  256))) [] H fun t24_4 H => R t24_4 H) (fn [(.t 2)] R)) fun Q1 => jn (blk 0 Q1) fun Q5 => WL S b63_0 (upd (upd (Env.get [a0]) 2 (.bool false)) 3 (.int .i64 0)) H Q5
theorem h63 (S : Sys) (a0 : Value) (H : Heap) (R : Kv) : wpC S k63.body (Env.get [a0]) H (fn [(.t 2)] R) = s63 S a0 H R := by kernel_rfl
theorem w63 {S : Sys} (hR : S.R 63 = none) (hF : S.F 63 = some k63) (a0 : Value) {H : Heap} {R : Kv} (h : s63 S a0 H R) : Wf S 63 [a0] H R := Wf_sh hR hF ((h63 S a0 H
  R).mpr h)
def b64_0 : KCode := (.seq (.seq (.reg [(.op (some 5) none (.mv (.t 4))), (.op (some 6) none (.mv (.t 0))), (.op (some 7) none (.bin .lss (.t 5) (.t 6)))]) (.cond (.t 7)
  .skip (.exit 0))) (.seq (.block 1 (.reg [(.op (some 10) none (.mv (.t 3))), (.op (some 11) none (.bin .mul (.t 10) (.c (.int .i64 2)))), (.op (some 3) none (.mv (.t
  11)))])) (.reg [(.op (some 8) none (.mv (.t 4))), (.op (some 9) none (.bin .add (.t 8) (.c (.int .i64 1)))), (.op (some 4) none (.mv (.t 9)))])))
def s64_0 (S : Sys) (e : Fe) (H : Heap) (Q : Kx) : Prop := run S (.bin .lss (.c (e 4)) (.c (e 0))) [] H fun t7_4 H => jn (sq (fun e6 H => jn (sq (fun e8 H => run S (.bin
  .add (.c (e8 4)) (.c (.int .i64 1))) [] H fun t9_9 H => Q .normal (upd (upd (upd e8 8 (e8 4)) 9 t9_9) 4 t9_9) H) Q) fun Q7 => run S (.bin .mul (.c (e6 3)) (.c (.int
  .i64 2))) [] H fun t11_10 H => Q7 .normal (upd (upd (upd e6 10 (e6 3)) 11 t11_10) 3 t11_10) H) Q) fun Q5 => cnd t7_4 (fun Q11 => Q11 .normal (upd (upd (upd e 5 (e 4))
  6 (e 0)) 7 t7_4) H) (fun Q12 => Q12 (.exit 0) (upd (upd (upd e 5 (e 4)) 6 (e 0)) 7 t7_4) H) Q5
theorem h64_0 (S : Sys) (e : Fe) (H : Heap) (Q : Kx) : wpC S b64_0 e H Q = s64_0 S e H Q := by kernel_rfl
theorem l64_0 (S : Sys) {Q : Kx} (I : Nat → Fe → Heap → Prop) (d : Nat) {e0 : Fe} {H : Heap} (h0 : I d e0 H) (hr : ∀ (d : Nat) (e : Fe) (H : Heap), I d e H → s64_0 S e H
  (sq (fun e' H' => ∃ d', d' < d ∧ I d' e' H') Q)) : WL S b64_0 e0 H Q := WL_inv I d h0 fun d e H hi => (h64_0 S e H _).mpr (hr d e H hi)
theorem u64_0 (S : Sys) {Q : Kx} {e : Fe} {H : Heap} (h : s64_0 S e H (sq (fun e' H' => WL S b64_0 e' H' Q) Q)) : WL S b64_0 e H Q := WL_once ((h64_0 S e H _).mpr h)
def s64 (S : Sys) (a0 : Value) (H : Heap) (R : Kv) : Prop := jn (sq (fun e2 H => R (e2 3) H) (fn [(.t 2)] R)) fun Q1 => jn (blk 0 Q1) fun Q3 => WL S b64_0 (upd (upd (upd
  (Env.get [a0]) 2 (.int .i64 0)) 3 (.int .i64 1)) 4 (.int .i64 0)) H Q3
theorem h64 (S : Sys) (a0 : Value) (H : Heap) (R : Kv) : wpC S k64.body (Env.get [a0]) H (fn [(.t 2)] R) = s64 S a0 H R := by kernel_rfl
theorem w64 {S : Sys} (hR : S.R 64 = none) (hF : S.F 64 = some k64) (a0 : Value) {H : Heap} {R : Kv} (h : s64 S a0 H R) : Wf S 64 [a0] H R := Wf_sh hR hF ((h64 S a0 H
  R).mpr h)
def b65_0 : KCode := (.seq (.seq (.reg [(.op (some 6) none (.mv (.t 3))), (.op (some 7) none (.bin .gtr (.t 6) (.c (.int .i64 0)))), (.op (some 8) none (.mv (.t 7))),
  (.op (some 9) (some (8, true)) (.mv (.t 0))), (.op (some 10) (some (8, true)) (.mv (.t 3))), (.op (some 11) (some (8, true)) (.bin .sub (.t 10) (.c (.int .i64 1)))),
  (.op (some 12) (some (8, true)) (.iad 1 (.t 9) (.t 11))), (.op (some 13) (some (8, true)) (.ld (.t 12))), (.op (some 14) (some (8, true)) (.bin .eql (.t 13) (.c (.int
  .i64 0)))), (.op (some 15) none (.pick (.t 8) (.t 14) (.c (.bool false))))]) (.cond (.t 15) .skip (.exit 0))) (.block 1 (.reg [(.op (some 16) none (.mv (.t 3))), (.op
  (some 17) none (.bin .sub (.t 16) (.c (.int .i64 1)))), (.op (some 3) none (.mv (.t 17)))])))
def s65_0 (S : Sys) (e : Fe) (H : Heap) (Q : Kx) : Prop := run S (.bin .gtr (.c (e 3)) (.c (.int .i64 0))) [] H fun t7_6 H => gd t7_6 true (run S (.mv (.c (e 0))) [] H)
  H fun t9_7 H => gd t7_6 true (run S (.mv (.c (e 3))) [] H) H fun t10_8 H => gd t7_6 true (run S (.bin .sub (.c t10_8) (.c (.int .i64 1))) [] H) H fun t11_9 H => gd
  t7_6 true (run S (.iad 1 (.c t9_7) (.c t11_9)) [] H) H fun t12_10 H => gd t7_6 true (run S (.ld (.c t12_10)) [] H) H fun t13_11 H => gd t7_6 true (run S (.bin .eql (.c
  t13_11) (.c (.int .i64 0))) [] H) H fun t14_12 H => run S (.pick (.c t7_6) (.c t14_12) (.c (.bool false))) [] H fun t15_13 H => jn (sq (fun e15 H => run S (.bin .sub
  (.c (e15 3)) (.c (.int .i64 1))) [] H fun t17_16 H => Q .normal (upd (upd (upd e15 16 (e15 3)) 17 t17_16) 3 t17_16) H) Q) fun Q14 => cnd t15_13 (fun Q17 => Q17 .normal
  (upd (upd (upd (upd (upd (upd (upd (upd (upd (upd e 6 (e 3)) 7 t7_6) 8 t7_6) 9 t9_7) 10 t10_8) 11 t11_9) 12 t12_10) 13 t13_11) 14 t14_12) 15 t15_13) H) (fun Q18 => Q18
  (.exit 0) (upd (upd (upd (upd (upd (upd (upd (upd (upd (upd e 6 (e 3)) 7 t7_6) 8 t7_6) 9 t9_7) 10 t10_8) 11 t11_9) 12 t12_10) 13 t13_11) 14 t14_12) 15 t15_13) H) Q14
theorem h65_0 (S : Sys) (e : Fe) (H : Heap) (Q : Kx) : wpC S b65_0 e H Q = s65_0 S e H Q := by kernel_rfl
theorem l65_0 (S : Sys) {Q : Kx} (I : Nat → Fe → Heap → Prop) (d : Nat) {e0 : Fe} {H : Heap} (h0 : I d e0 H) (hr : ∀ (d : Nat) (e : Fe) (H : Heap), I d e H → s65_0 S e H
  (sq (fun e' H' => ∃ d', d' < d ∧ I d' e' H') Q)) : WL S b65_0 e0 H Q := WL_inv I d h0 fun d e H hi => (h65_0 S e H _).mpr (hr d e H hi)
theorem u65_0 (S : Sys) {Q : Kx} {e : Fe} {H : Heap} (h : s65_0 S e H (sq (fun e' H' => WL S b65_0 e' H' Q) Q)) : WL S b65_0 e H Q := WL_once ((h65_0 S e H _).mpr h)
def s65 (S : Sys) (a0 : Value) (H : Heap) (R : Kv) : Prop := run S (.lenL (.c a0)) [] H fun t5_1 H => jn (sq (fun e3 H => run S (.slc 3 1 (.c (e3 0)) none (some (.c (e3
  3)))) [] H fun t20_4 H => R t20_4 H) (fn [(.t 2)] R)) fun Q2 => jn (blk 0 Q2) fun Q5 => WL S b65_0 (upd (upd (upd (upd (Env.get [a0]) 2 (.slice none 0 0)) 4 a0) 5
  t5_1) 3 t5_1) H Q5
theorem h65 (S : Sys) (a0 : Value) (H : Heap) (R : Kv) : wpC S k65.body (Env.get [a0]) H (fn [(.t 2)] R) = s65 S a0 H R := by kernel_rfl
theorem w65 {S : Sys} (hR : S.R 65 = none) (hF : S.F 65 = some k65) (a0 : Value) {H : Heap} {R : Kv} (h : s65 S a0 H R) : Wf S 65 [a0] H R := Wf_sh hR hF ((h65 S a0 H
  R).mpr h)
def b66_1 : KCode := (.seq (.seq (.reg [(.op (some 21) none (.mv (.t 6))), (.op (some 22) none (.mv (.t 0))), (.op (some 23) none (.lenL (.t 22))), (.op (some 24) none
  (.bin .lss (.t 21) (.t 23)))]) (.cond (.t 24) .skip (.exit 2))) (.seq (.block 3 (.seq (.reg [(.op (some 27) none (.mv (.t 0))), (.op (some 28) none (.mv (.t 6))), (.op
  (some 29) none (.iad 1 (.t 27) (.t 28))), (.op (some 30) none (.ld (.t 29))), (.op (some 31) none (.bin .gtr (.t 30) (.c (.int .i64 0)))), (.op (some 32) none (.mv (.t
  31))), (.op (some 33) (some (32, true)) (.mv (.t 0))), (.op (some 34) (some (32, true)) (.mv (.t 6))), (.op (some 35) (some (32, true)) (.iad 1 (.t 33) (.t 34))), (.op
  (some 36) (some (32, true)) (.ld (.t 35))), (.op (some 37) (some (32, true)) (.mv (.t 0))), (.op (some 38) (some (32, true)) (.mv (.t 4))), (.op (some 39) (some (32,
  true)) (.iad 1 (.t 37) (.t 38))), (.op (some 40) (some (32, true)) (.ld (.t 39))), (.op (some 41) (some (32, true)) (.bin .lss (.t 36) (.t 40))), (.op (some 42) (some
  (32, true)) (.mv (.t 41))), (.op (some 43) (some (42, false)) (.mv (.t 0))), (.op (some 44) (some (42, false)) (.mv (.t 6))), (.op (some 45) (some (42, false)) (.iad 1
  (.t 43) (.t 44))), (.op (some 46) (some (42, false)) (.ld (.t 45))), (.op (some 47) (some (42, false)) (.mv (.t 0))), (.op (some 48) (some (42, false)) (.mv (.t 4))),
  (.op (some 49) (some (42, false)) (.iad 1 (.t 47) (.t 48))), (.op (some 50) (some (42, false)) (.ld (.t 49))), (.op (some 51) (some (42, false)) (.bin .eql (.t 46) (.t
  50))), (.op (some 52) (some (42, false)) (.mv (.t 51))), (.op (some 53) (some (52, true)) (.mv (.t 6))), (.op (some 54) (some (52, true)) (.mv (.t 4))), (.op (some 55)
  (some (52, true)) (.bin .lss (.t 53) (.t 54))), (.op (some 56) (some (42, false)) (.pick (.t 52) (.t 55) (.c (.bool false)))), (.op (some 57) (some (32, true)) (.pick
  (.t 42) (.c (.bool true)) (.t 56))), (.op (some 58) none (.pick (.t 32) (.t 57) (.c (.bool false))))]) (.cond (.t 58) (.reg [(.op (some 59) none (.mv (.t 5))), (.op
  (some 60) none (.mv (.t 0))), (.op (some 61) none (.mv (.t 6))), (.op (some 62) none (.iad 1 (.t 60) (.t 61))), (.op (some 63) none (.ld (.t 62))), (.op (some 64) none
  (.bin .sub (.c (.int .i64 11)) (.t 63))), (.op (some 65) none (.call 64 [(.t 64)])), (.op (some 66) none (.bin .add (.t 59) (.t 65))), (.op (some 5) none (.mv (.t
  66)))]) .skip))) (.reg [(.op (some 25) none (.mv (.t 6))), (.op (some 26) none (.bin .add (.t 25) (.c (.int .i64 1)))), (.op (some 6) none (.mv (.t 26)))])))
def s66_1 (S : Sys) (e : Fe) (H : Heap) (Q : Kx) : Prop := run S (.lenL (.c (e 0))) [] H fun t23_32 H => run S (.bin .lss (.c (e 6)) (.c t23_32)) [] H fun t24_33 H => jn
  (sq (fun e35 H => jn (sq (fun e37 H => run S (.bin .add (.c (e37 6)) (.c (.int .i64 1))) [] H fun t26_38 H => Q .normal (upd (upd (upd e37 25 (e37 6)) 26 t26_38) 6
  t26_38) H) Q) fun Q36 => run S (.iad 1 (.c (e35 0)) (.c (e35 6))) [] H fun t29_39 H => run S (.ld (.c t29_39)) [] H fun t30_40 H => run S (.bin .gtr (.c t30_40) (.c
  (.int .i64 0))) [] H fun t31_41 H => gd t31_41 true (run S (.mv (.c (e35 0))) [] H) H fun t33_42 H => gd t31_41 true (run S (.mv (.c (e35 6))) [] H) H fun t34_43 H =>
  gd t31_41 true (run S (.iad 1 (.c t33_42) (.c t34_43)) [] H) H fun t35_44 H => gd t31_41 true (run S (.ld (.c t35_44)) [] H) H fun t36_45 H => gd t31_41 true (run S
  (.mv (.c (e35 0))) [] H) H fun t37_46 H => gd t31_41 true (run S (.mv (.c (e35 4))) [] H) H fun t38_47 H => gd t31_41 true (run S (.iad 1 (.c t37_46) (.c t38_47)) []
  H) H fun t39_48 H => gd t31_41 true (run S (.ld (.c t39_48)) [] H) H fun t40_49 H => gd t31_41 true (run S (.bin .lss (.c t36_45) (.c t40_49)) [] H) H fun t41_50 H =>
  gd t31_41 true (run S (.mv (.c t41_50)) [] H) H fun t42_51 H => gd t42_51 false (run S (.mv (.c (e35 0))) [] H) H fun t43_52 H => gd t42_51 false (run S (.mv (.c (e35
  6))) [] H) H fun t44_53 H => gd t42_51 false (run S (.iad 1 (.c t43_52) (.c t44_53)) [] H) H fun t45_54 H => gd t42_51 false (run S (.ld (.c t45_54)) [] H) H fun
  t46_55 H => gd t42_51 false (run S (.mv (.c (e35 0))) [] H) H fun t47_56 H => gd t42_51 false (run S (.mv (.c (e35 4))) [] H) H fun t48_57 H => gd t42_51 false (run S
  (.iad 1 (.c t47_56) (.c t48_57)) [] H) H fun t49_58 H => gd t42_51 false (run S (.ld (.c t49_58)) [] H) H fun t50_59 H => gd t42_51 false (run S (.bin .eql (.c t46_55)
  (.c t50_59)) [] H) H fun t51_60 H => gd t42_51 false (run S (.mv (.c t51_60)) [] H) H fun t52_61 H => gd t52_61 true (run S (.mv (.c (e35 6))) [] H) H fun t53_62 H =>
  gd t52_61 true (run S (.mv (.c (e35 4))) [] H) H fun t54_63 H => gd t52_61 true (run S (.bin .lss (.c t53_62) (.c t54_63)) [] H) H fun t55_64 H => gd t42_51 false (run
  S (.pick (.c t52_61) (.c t55_64) (.c (.bool false))) [] H) H fun t56_65 H => gd t31_41 true (run S (.pick (.c t42_51) (.c (.bool true)) (.c t56_65)) [] H) H fun t57_66
  H => run S (.pick (.c t31_41) (.c t57_66) (.c (.bool false))) [] H fun t58_67 H => jn (blk 3 Q36) fun Q68 => cnd t58_67 (fun Q69 => run S (.iad 1 (.c (e35 0)) (.c (e35
  6))) [] H fun t62_71 H => run S (.ld (.c t62_71)) [] H fun t63_72 H => run S (.bin .sub (.c (.int .i64 11)) (.c t63_72)) [] H fun t64_73 H => run S (.call 64 [(.c
  t64_73)]) [] H fun t65_74 H => run S (.bin .add (.c (e35 5)) (.c t65_74)) [] H fun t66_75 H => Q69 .normal (upd (upd (upd (upd (upd (upd (upd (upd (upd (upd (upd (upd
  (upd (upd (upd (upd (upd (upd (upd (upd (upd (upd (upd (upd (upd (upd (upd (upd (upd (upd (upd (upd (upd (upd (upd (upd (upd (upd (upd (upd (upd e35 27 (e35 0)) 28
  (e35 6)) 29 t29_39) 30 t30_40) 31 t31_41) 32 t31_41) 33 t33_42) 34 t34_43) 35 t35_44) 36 t36_45) 37 t37_46) 38 t38_47) 39 t39_48) 40 t40_49) 41 t41_50) 42 t42_51) 43
  t43_52) 44 t44_53) 45 t45_54) 46 t46_55) 47 t47_56) 48 t48_57) 49 t49_58) 50 t50_59) 51 t51_60) 52 t52_61) 53 t53_62) 54 t54_63) 55 t55_64) 56 t56_65) 57 t57_66) 58
  t58_67) 59 (e35 5)) 60 (e35 0)) 61 (e35 6)) 62 t62_71) 63 t63_72) 64 t64_73) 65 t65_74) 66 t66_75) 5 t66_75) H) (fun Q70 => Q70 .normal (upd (upd (upd (upd (upd (upd
  (upd (upd (upd (upd (upd (upd (upd (upd (upd (upd (upd (upd (upd (upd (upd (upd (upd (upd (upd (upd (upd (upd (upd (upd (upd (upd e35 27 (e35 0)) 28 (e35 6)) 29
  t29_39) 30 t30_40) 31 t31_41) 32 t31_41) 33 t33_42) 34 t34_43) 35 t35_44) 36 t36_45) 37 t37_46) 38 t38_47) 39 t39_48) 40 t40_49) 41 t41_50) 42 t42_51) 43 t43_52) 44
  t44_53) 45 t45_54) 46 t46_55) 47 t47_56) 48 t48_57) 49 t49_58) 50 t50_59) 51 t51_60) 52 t52_61) 53 t53_62) 54 t54_63) 55 t55_64) 56 t56_65) 57 t57_66) 58 t58_67) H)
  Q68) Q) fun Q34 => cnd t24_33 (fun Q76 => Q76 .normal (upd (upd (upd (upd e 21 (e 6)) 22 (e 0)) 23 t23_32) 24 t24_33) H) (fun Q77 => Q77 (.exit 2) (upd (upd (upd (upd
  e 21 (e 6)) 22 (e 0)) 23 t23_32) 24 t24_33) H) Q34
theorem h66_1 (S : Sys) (e : Fe) (H : Heap) (Q : Kx) : wpC S b66_1 e H Q = s66_1 S e H Q := by kernel_rfl
theorem l66_1 (S : Sys) {Q : Kx} (I : Nat → Fe → Heap → Prop) (d : Nat) {e0 : Fe} {H : Heap} (h0 : I d e0 H) (hr : ∀ (d : Nat) (e : Fe) (H : Heap), I d e H → s66_1 S e H
  (sq (fun e' H' => ∃ d', d' < d ∧ I d' e' H') Q)) : WL S b66_1 e0 H Q := WL_inv I d h0 fun d e H hi => (h66_1 S e H _).mpr (hr d e H hi)
theorem u66_1 (S : Sys) {Q : Kx} {e : Fe} {H : Heap} (h : s66_1 S e H (sq (fun e' H' => WL S b66_1 e' H' Q) Q)) : WL S b66_1 e H Q := WL_once ((h66_1 S e H _).mpr h)
def b66_0 : KCode := (.seq (.seq (.reg [(.op (some 10) none (.mv (.t 4))), (.op (some 11) none (.mv (.t 0))), (.op (some 12) none (.lenL (.t 11))), (.op (some 13) none
  (.bin .lss (.t 10) (.t 12)))]) (.cond (.t 13) .skip (.exit 0))) (.seq (.block 1 (.seq (.seq (.reg [(.op (some 16) none (.mv (.t 0))), (.op (some 17) none (.mv (.t
  4))), (.op (some 18) none (.iad 1 (.t 16) (.t 17))), (.op (some 19) none (.ld (.t 18))), (.op (some 20) none (.bin .eql (.t 19) (.c (.int .i64 0))))]) (.cond (.t 20)
  (.exit 1) .skip)) (.seq (.reg [(.op (some 5) none (.mv (.c (.int .i64 0))))]) (.seq (.seq (.reg [(.op (some 6) none (.mv (.c (.int .i64 0))))]) (.block 2 (.loop (.seq
  (.seq (.reg [(.op (some 21) none (.mv (.t 6))), (.op (some 22) none (.mv (.t 0))), (.op (some 23) none (.lenL (.t 22))), (.op (some 24) none (.bin .lss (.t 21) (.t
  23)))]) (.cond (.t 24) .skip (.exit 2))) (.seq (.block 3 (.seq (.reg [(.op (some 27) none (.mv (.t 0))), (.op (some 28) none (.mv (.t 6))), (.op (some 29) none (.iad 1
  (.t 27) (.t 28))), (.op (some 30) none (.ld (.t 29))), (.op (some 31) none (.bin .gtr (.t 30) (.c (.int .i64 0)))), (.op (some 32) none (.mv (.t 31))), (.op (some 33)
  (some (32, true)) (.mv (.t 0))), (.op (some 34) (some (32, true)) (.mv (.t 6))), (.op (some 35) (some (32, true)) (.iad 1 (.t 33) (.t 34))), (.op (some 36) (some (32,
  true)) (.ld (.t 35))), (.op (some 37) (some (32, true)) (.mv (.t 0))), (.op (some 38) (some (32, true)) (.mv (.t 4))), (.op (some 39) (some (32, true)) (.iad 1 (.t 37)
  (.t 38))), (.op (some 40) (some (32, true)) (.ld (.t 39))), (.op (some 41) (some (32, true)) (.bin .lss (.t 36) (.t 40))), (.op (some 42) (some (32, true)) (.mv (.t
  41))), (.op (some 43) (some (42, false)) (.mv (.t 0))), (.op (some 44) (some (42, false)) (.mv (.t 6))), (.op (some 45) (some (42, false)) (.iad 1 (.t 43) (.t 44))),
  (.op (some 46) (some (42, false)) (.ld (.t 45))), (.op (some 47) (some (42, false)) (.mv (.t 0))), (.op (some 48) (some (42, false)) (.mv (.t 4))), (.op (some 49)
  (some (42, false)) (.iad 1 (.t 47) (.t 48))), (.op (some 50) (some (42, false)) (.ld (.t 49))), (.op (some 51) (some (42, false)) (.bin .eql (.t 46) (.t 50))), (.op
  (some 52) (some (42, false)) (.mv (.t 51))), (.op (some 53) (some (52, true)) (.mv (.t 6))), (.op (some 54) (some (52, true)) (.mv (.t 4))), (.op (some 55) (some (52,
  true)) (.bin .lss (.t 53) (.t 54))), (.op (some 56) (some (42, false)) (.pick (.t 52) (.t 55) (.c (.bool false)))), (.op (some 57) (some (32, true)) (.pick (.t 42) (.c
  (.bool true)) (.t 56))), (.op (some 58) none (.pick (.t 32) (.t 57) (.c (.bool false))))]) (.cond (.t 58) (.reg [(.op (some 59) none (.mv (.t 5))), (.op (some 60) none
  (.mv (.t 0))), (.op (some 61) none (.mv (.t 6))), (.op (some 62) none (.iad 1 (.t 60) (.t 61))), (.op (some 63) none (.ld (.t 62))), (.op (some 64) none (.bin .sub (.c
  (.int .i64 11)) (.t 63))), (.op (some 65) none (.call 64 [(.t 64)])), (.op (some 66) none (.bin .add (.t 59) (.t 65))), (.op (some 5) none (.mv (.t 66)))]) .skip)))
  (.reg [(.op (some 25) none (.mv (.t 6))), (.op (some 26) none (.bin .add (.t 25) (.c (.int .i64 1)))), (.op (some 6) none (.mv (.t 26)))])))))) (.reg [(.op (some 67)
  none (.mv (.t 3))), (.op (some 68) none (.mv (.t 4))), (.op (some 69) none (.mv (.t 5))), (.op (some 70) none (.mv (.t 0))), (.op (some 71) none (.mv (.t 4))), (.op
  (some 72) none (.iad 1 (.t 70) (.t 71))), (.op (some 73) none (.ld (.t 72))), (.op (some 74) none (.bin .sub (.c (.int .i64 11)) (.t 73))), (.op (some 75) none (.call
  64 [(.t 74)])), (.op (some 76) none (.bin .quo (.t 69) (.t 75))), (.op (some 77) none (.iad 1 (.t 67) (.t 68))), (.op none none (.st (.t 77) (.t 76)))]))))) (.reg
  [(.op (some 14) none (.mv (.t 4))), (.op (some 15) none (.bin .add (.t 14) (.c (.int .i64 1)))), (.op (some 4) none (.mv (.t 15)))])))
def s66_0 (S : Sys) (e : Fe) (H : Heap) (Q : Kx) : Prop := run S (.lenL (.c (e 0))) [] H fun t12_6 H => run S (.bin .lss (.c (e 4)) (.c t12_6)) [] H fun t13_7 H => jn
  (sq (fun e9 H => jn (sq (fun e11 H => run S (.bin .add (.c (e11 4)) (.c (.int .i64 1))) [] H fun t15_12 H => Q .normal (upd (upd (upd e11 14 (e11 4)) 15 t15_12) 4
  t15_12) H) Q) fun Q10 => run S (.iad 1 (.c (e9 0)) (.c (e9 4))) [] H fun t18_13 H => run S (.ld (.c t18_13)) [] H fun t19_14 H => run S (.bin .eql (.c t19_14) (.c
  (.int .i64 0))) [] H fun t20_15 H => jn (blk 1 Q10) fun Q16 => jn (sq (fun e18 H => jn (sq (fun e20 H => run S (.iad 1 (.c (e20 0)) (.c (e20 4))) [] H fun t72_21 H =>
  run S (.ld (.c t72_21)) [] H fun t73_22 H => run S (.bin .sub (.c (.int .i64 11)) (.c t73_22)) [] H fun t74_23 H => run S (.call 64 [(.c t74_23)]) [] H fun t75_24 H =>
  run S (.bin .quo (.c (e20 5)) (.c t75_24)) [] H fun t76_25 H => run S (.iad 1 (.c (e20 3)) (.c (e20 4))) [] H fun t77_26 H => run S (.st (.c t77_26) (.c t76_25)) [] H
  fun _ H => Q16 .normal (upd (upd (upd (upd (upd (upd (upd (upd (upd (upd (upd e20 67 (e20 3)) 68 (e20 4)) 69 (e20 5)) 70 (e20 0)) 71 (e20 4)) 72 t72_21) 73 t73_22) 74
  t74_23) 75 t75_24) 76 t76_25) 77 t77_26) H) Q16) fun Q19 => jn (blk 2 Q19) fun Q27 => WL S b66_1 (upd (upd e18 5 (.int .i64 0)) 6 (.int .i64 0)) H Q27) Q16) fun Q17 =>
  cnd t20_15 (fun Q28 => Q28 (.exit 1) (upd (upd (upd (upd (upd e9 16 (e9 0)) 17 (e9 4)) 18 t18_13) 19 t19_14) 20 t20_15) H) (fun Q29 => Q29 .normal (upd (upd (upd (upd
  (upd e9 16 (e9 0)) 17 (e9 4)) 18 t18_13) 19 t19_14) 20 t20_15) H) Q17) Q) fun Q8 => cnd t13_7 (fun Q30 => Q30 .normal (upd (upd (upd (upd e 10 (e 4)) 11 (e 0)) 12
  t12_6) 13 t13_7) H) (fun Q31 => Q31 (.exit 0) (upd (upd (upd (upd e 10 (e 4)) 11 (e 0)) 12 t12_6) 13 t13_7) H) Q8
theorem h66_0 (S : Sys) (e : Fe) (H : Heap) (Q : Kx) : wpC S b66_0 e H Q = s66_0 S e H Q := by kernel_rfl
theorem l66_0 (S : Sys) {Q : Kx} (I : Nat → Fe → Heap → Prop) (d : Nat) {e0 : Fe} {H : Heap} (h0 : I d e0 H) (hr : ∀ (d : Nat) (e : Fe) (H : Heap), I d e H → s66_0 S e H
  (sq (fun e' H' => ∃ d', d' < d ∧ I d' e' H') Q)) : WL S b66_0 e0 H Q := WL_inv I d h0 fun d e H hi => (h66_0 S e H _).mpr (hr d e H hi)
theorem u66_0 (S : Sys) {Q : Kx} {e : Fe} {H : Heap} (h : s66_0 S e H (sq (fun e' H' => WL S b66_0 e' H' Q) Q)) : WL S b66_0 e H Q := WL_once ((h66_0 S e H _).mpr h)
def s66 (S : Sys) (a0 : Value) (H : Heap) (R : Kv) : Prop := run S (.lenL (.c a0)) [] H fun t8_1 H => run S (.mks 3 [(.int .i64 0)] 8 (.c t8_1) (.c t8_1)) [] H fun t9_2
  H => jn (sq (fun e4 H => R (e4 3) H) (fn [(.t 2)] R)) fun Q3 => jn (blk 0 Q3) fun Q5 => WL S b66_0 (upd (upd (upd (upd (upd (upd (Env.get [a0]) 2 (.slice none 0 0)) 7
  a0) 8 t8_1) 9 t9_2) 3 t9_2) 4 (.int .i64 0)) H Q5
theorem h66 (S : Sys) (a0 : Value) (H : Heap) (R : Kv) : wpC S k66.body (Env.get [a0]) H (fn [(.t 2)] R) = s66 S a0 H R := by kernel_rfl
theorem w66 {S : Sys} (hR : S.R 66 = none) (hF : S.F 66 = some k66) (a0 : Value) {H : Heap} {R : Kv} (h : s66 S a0 H R) : Wf S 66 [a0] H R := Wf_sh hR hF ((h66 S a0 H
  R).mpr h)
def b67_0 : KCode := (.seq (.seq (.reg [(.op (some 7) none (.mv (.t 6))), (.op (some 8) none (.mv (.t 1))), (.op (some 9) none (.bin .lss (.t 7) (.t 8)))]) (.cond (.t 9)
  .skip (.exit 0))) (.seq (.block 1 (.reg [(.op (some 12) none (.mv (.t 5))), (.op (some 13) none (.mv (.t 0))), (.op (some 14) none (.mv (.t 6))), (.op (some 15) none
  (.bin .shr (.t 13) (.t 14))), (.op (some 16) none (.cvt .i64 (.t 15))), (.op (some 17) none (.bin .rem (.t 16) (.c (.int .i64 2)))), (.op (some 18) none (.bsl 3 1
  [(.int .i64 0)] [(0, (1, (.t 17)))])), (.op (some 19) none (.app 3 1 8 (.t 12) (.t 18))), (.op (some 5) none (.mv (.t 19)))])) (.reg [(.op (some 10) none (.mv (.t
  6))), (.op (some 11) none (.bin .add (.t 10) (.c (.int .i64 1)))), (.op (some 6) none (.mv (.t 11)))])))
def s67_0 (S : Sys) (e : Fe) (H : Heap) (Q : Kx) : Prop := run S (.bin .lss (.c (e 6)) (.c (e 1))) [] H fun t9_4 H => jn (sq (fun e6 H => jn (sq (fun e8 H => run S (.bin
  .add (.c (e8 6)) (.c (.int .i64 1))) [] H fun t11_9 H => Q .normal (upd (upd (upd e8 10 (e8 6)) 11 t11_9) 6 t11_9) H) Q) fun Q7 => run S (.bin .shr (.c (e6 0)) (.c (e6
  6))) [] H fun t15_10 H => run S (.cvt .i64 (.c t15_10)) [] H fun t16_11 H => run S (.bin .rem (.c t16_11) (.c (.int .i64 2))) [] H fun t17_12 H => run S (.bsl 3 1
  [(.int .i64 0)] [(0, (1, (.c t17_12)))]) [] H fun t18_13 H => run S (.app 3 1 8 (.c (e6 5)) (.c t18_13)) [] H fun t19_14 H => Q7 .normal (upd (upd (upd (upd (upd (upd
  (upd (upd (upd e6 12 (e6 5)) 13 (e6 0)) 14 (e6 6)) 15 t15_10) 16 t16_11) 17 t17_12) 18 t18_13) 19 t19_14) 5 t19_14) H) Q) fun Q5 => cnd t9_4 (fun Q15 => Q15 .normal
  (upd (upd (upd e 7 (e 6)) 8 (e 1)) 9 t9_4) H) (fun Q16 => Q16 (.exit 0) (upd (upd (upd e 7 (e 6)) 8 (e 1)) 9 t9_4) H) Q5
theorem h67_0 (S : Sys) (e : Fe) (H : Heap) (Q : Kx) : wpC S b67_0 e H Q = s67_0 S e H Q := by kernel_rfl
theorem l67_0 (S : Sys) {Q : Kx} (I : Nat → Fe → Heap → Prop) (d : Nat) {e0 : Fe} {H : Heap} (h0 : I d e0 H) (hr : ∀ (d : Nat) (e : Fe) (H : Heap), I d e H → s67_0 S e H
  (sq (fun e' H' => ∃ d', d' < d ∧ I d' e' H') Q)) : WL S b67_0 e0 H Q := WL_inv I d h0 fun d e H hi => (h67_0 S e H _).mpr (hr d e H hi)
theorem u67_0 (S : Sys) {Q : Kx} {e : Fe} {H : Heap} (h : s67_0 S e H (sq (fun e' H' => WL S b67_0 e' H' Q) Q)) : WL S b67_0 e H Q := WL_once ((h67_0 S e H _).mpr h)
def s67 (S : Sys) (a0 a1 : Value) (H : Heap) (R : Kv) : Prop := jn (sq (fun e2 H => R (e2 5) H) (fn [(.t 4)] R)) fun Q1 => jn (blk 0 Q1) fun Q3 => WL S b67_0 (upd (upd
  (upd (Env.get [a0, a1]) 4 (.slice none 0 0)) 5 (.slice none 0 0)) 6 (.int .i64 0)) H Q3
theorem h67 (S : Sys) (a0 a1 : Value) (H : Heap) (R : Kv) : wpC S k67.body (Env.get [a0, a1]) H (fn [(.t 4)] R) = s67 S a0 a1 H R := by kernel_rfl
theorem w67 {S : Sys} (hR : S.R 67 = none) (hF : S.F 67 = some k67) (a0 a1 : Value) {H : Heap} {R : Kv} (h : s67 S a0 a1 H R) : Wf S 67 [a0, a1] H R := Wf_sh hR hF ((h67
  S a0 a1 H R).mpr h)
def b73_1 : KCode := (.seq (.reg [(.op (some 33) none (.bin .lss (.t 32) (.t 31)))]) (.seq (.cond (.t 33) .skip (.exit 2)) (.seq (.block 3 (.seq (.reg [(.op (some 34)
  none (.mv (.t 32))), (.op (some 35) none (.iad 1 (.t 30) (.t 32))), (.op (some 36) none (.ld (.t 35))), (.op (some 6) none (.mv (.t 34))), (.op (some 7) none (.mv (.t
  36)))]) (.seq (.reg [(.op (some 37) none (.mv (.t 7))), (.op (some 38) none (.mv (.t 5))), (.op (some 39) none (.bin .eql (.t 37) (.t 38)))]) (.cond (.t 39) (.seq
  (.reg [(.op (some 40) none (.mv (.t 3))), (.op (some 41) none (.mv (.t 3))), (.op (some 42) none (.nck (.t 41))), (.op (some 43) none (.fad 39 (.t 42))), (.op (some
  44) none (.ld (.t 43))), (.op (some 45) none (.mv (.t 6))), (.op (some 46) none (.cvt .u8 (.t 45))), (.op (some 47) none (.bsl 5 1 [(.int .u8 0)] [(0, (1, (.t
  46)))])), (.op (some 48) none (.app 5 1 1 (.t 44) (.t 47))), (.op (some 49) none (.nck (.t 40))), (.op (some 50) none (.fad 39 (.t 49))), (.op none none (.st (.t 50)
  (.t 48)))]) (.reg [(.op (some 51) none (.mv (.t 3))), (.op (some 52) none (.mv (.t 5))), (.op (some 53) none (.nck (.t 51))), (.op (some 54) none (.fad 13 (.t 53))),
  (.op (some 55) none (.iada 13 1 (.t 54) (.t 52))), (.op (some 56) none (.ld (.t 55))), (.op (some 57) none (.bin .add (.t 56) (.c (.int .i64 1)))), (.op (some 58) none
  (.nck (.t 51))), (.op (some 59) none (.fad 13 (.t 58))), (.op (some 60) none (.iada 13 1 (.t 59) (.t 52))), (.op none none (.st (.t 60) (.t 57)))])) .skip)))) (.reg
  [(.op (some 61) none (.bin .add (.t 32) (.c (.int .i64 1)))), (.op (some 32) none (.mv (.t 61)))]))))
def s73_1 (S : Sys) (e : Fe) (H : Heap) (Q : Kx) : Prop := run S (.bin .lss (.c (e 32)) (.c (e 31))) [] H fun t33_35 H => jn (sq (fun e37 H => jn (sq (fun e39 H => run S
  (.bin .add (.c (e39 32)) (.c (.int .i64 1))) [] H fun t61_40 H => Q .normal (upd (upd e39 61 t61_40) 32 t61_40) H) Q) fun Q38 => run S (.iad 1 (.c (e37 30)) (.c (e37
  32))) [] H fun t35_41 H => run S (.ld (.c t35_41)) [] H fun t36_42 H => run S (.bin .eql (.c t36_42) (.c (e37 5))) [] H fun t39_43 H => jn (blk 3 Q38) fun Q44 => cnd
  t39_43 (fun Q45 => run S (.nck (.c (e37 3))) [] H fun t42_47 H => run S (.fad 39 (.c t42_47)) [] H fun t43_48 H => run S (.ld (.c t43_48)) [] H fun t44_49 H => run S
  (.cvt .u8 (.c (e37 32))) [] H fun t46_50 H => run S (.bsl 5 1 [(.int .u8 0)] [(0, (1, (.c t46_50)))]) [] H fun t47_51 H => run S (.app 5 1 1 (.c t44_49) (.c t47_51))
  [] H fun t48_52 H => run S (.nck (.c (e37 3))) [] H fun t49_53 H => run S (.fad 39 (.c t49_53)) [] H fun t50_54 H => run S (.st (.c t50_54) (.c t48_52)) [] H fun _ H
  => run S (.nck (.c (e37 3))) [] H fun t53_55 H => run S (.fad 13 (.c t53_55)) [] H fun t54_56 H => run S (.iada 13 1 (.c t54_56) (.c (e37 5))) [] H fun t55_57 H => run
  S (.ld (.c t55_57)) [] H fun t56_58 H => run S (.bin .add (.c t56_58) (.c (.int .i64 1))) [] H fun t57_59 H => run S (.nck (.c (e37 3))) [] H fun t58_60 H => run S
  (.fad 13 (.c t58_60)) [] H fun t59_61 H => run S (.iada 13 1 (.c t59_61) (.c (e37 5))) [] H fun t60_62 H => run S (.st (.c t60_62) (.c t57_59)) [] H fun _ H => Q45
  .normal (upd (upd (upd (upd (upd (upd (upd (upd (upd (upd (upd (upd (upd (upd (upd (upd (upd (upd (upd (upd (upd (upd (upd (upd (upd (upd (upd (upd (upd e37 34 (e37
  32)) 35 t35_41) 36 t36_42) 6 (e37 32)) 7 t36_42) 37 t36_42) 38 (e37 5)) 39 t39_43) 40 (e37 3)) 41 (e37 3)) 42 t42_47) 43 t43_48) 44 t44_49) 45 (e37 32)) 46 t46_50) 47
  t47_51) 48 t48_52) 49 t49_53) 50 t50_54) 51 (e37 3)) 52 (e37 5)) 53 t53_55) 54 t54_56) 55 t55_57) 56 t56_58) 57 t57_59) 58 t58_60) 59 t59_61) 60 t60_62) H) (fun Q46 =>
  Q46 .normal (upd (upd (upd (upd (upd (upd (upd (upd e37 34 (e37 32)) 35 t35_41) 36 t36_42) 6 (e37 32)) 7 t36_42) 37 t36_42) 38 (e37 5)) 39 t39_43) H) Q44) Q) fun Q36
  => cnd t33_35 (fun Q63 => Q63 .normal (upd e 33 t33_35) H) (fun Q64 => Q64 (.exit 2) (upd e 33 t33_35) H) Q36
theorem h73_1 (S : Sys) (e : Fe) (H : Heap) (Q : Kx) : wpC S b73_1 e H Q = s73_1 S e H Q := by kernel_rfl
theorem l73_1 (S : Sys) {Q : Kx} (I : Nat → Fe → Heap → Prop) (d : Nat) {e0 : Fe} {H : Heap} (h0 : I d e0 H) (hr : ∀ (d : Nat) (e : Fe) (H : Heap), I d e H → s73_1 S e H
  (sq (fun e' H' => ∃ d', d' < d ∧ I d' e' H') Q)) : WL S b73_1 e0 H Q := WL_inv I d h0 fun d e H hi => (h73_1 S e H _).mpr (hr d e H hi)
theorem u73_1 (S : Sys) {Q : Kx} {e : Fe} {H : Heap} (h : s73_1 S e H (sq (fun e' H' => WL S b73_1 e' H' Q) Q)) : WL S b73_1 e H Q := WL_once ((h73_1 S e H _).mpr h)
def b73_0 : KCode := (.seq (.seq (.reg [(.op (some 10) none (.mv (.t 5))), (.op (some 11) none (.bin .leq (.t 10) (.c (.int .i64 11))))]) (.cond (.t 11) .skip (.exit
  0))) (.seq (.block 1 (.seq (.reg [(.op (some 14) none (.mv (.t 3))), (.op (some 15) none (.mv (.t 5))), (.op (some 16) none (.mv (.t 3))), (.op (some 17) none (.mv (.t
  5))), (.op (some 18) none (.mv (.t 4))), (.op (some 19) none (.mv (.t 3))), (.op (some 20) none (.nck (.t 19))), (.op (some 21) none (.fad 39 (.t 20))), (.op (some 22)
  none (.ld (.t 21))), (.op (some 23) none (.lenL (.t 22))), (.op (some 24) none (.nck (.t 14))), (.op (some 25) none (.fad 0 (.t 24))), (.op (some 26) none (.iada 13 1
  (.t 25) (.t 15))), (.op (some 27) none (.nck (.t 16))), (.op (some 28) none (.fad 26 (.t 27))), (.op none none (.st (.t 26) (.t 18))), (.op (some 29) none (.iada 13 1
  (.t 28) (.t 17))), (.op none none (.st (.t 29) (.t 23)))]) (.seq (.seq (.reg [(.op (some 30) none (.mv (.t 0))), (.op (some 31) none (.lenL (.t 30))), (.op (some 32)
  none (.mv (.c (.int .i64 0))))]) (.block 2 (.loop (.seq (.reg [(.op (some 33) none (.bin .lss (.t 32) (.t 31)))]) (.seq (.cond (.t 33) .skip (.exit 2)) (.seq (.block 3
  (.seq (.reg [(.op (some 34) none (.mv (.t 32))), (.op (some 35) none (.iad 1 (.t 30) (.t 32))), (.op (some 36) none (.ld (.t 35))), (.op (some 6) none (.mv (.t 34))),
  (.op (some 7) none (.mv (.t 36)))]) (.seq (.reg [(.op (some 37) none (.mv (.t 7))), (.op (some 38) none (.mv (.t 5))), (.op (some 39) none (.bin .eql (.t 37) (.t
  38)))]) (.cond (.t 39) (.seq (.reg [(.op (some 40) none (.mv (.t 3))), (.op (some 41) none (.mv (.t 3))), (.op (some 42) none (.nck (.t 41))), (.op (some 43) none
  (.fad 39 (.t 42))), (.op (some 44) none (.ld (.t 43))), (.op (some 45) none (.mv (.t 6))), (.op (some 46) none (.cvt .u8 (.t 45))), (.op (some 47) none (.bsl 5 1
  [(.int .u8 0)] [(0, (1, (.t 46)))])), (.op (some 48) none (.app 5 1 1 (.t 44) (.t 47))), (.op (some 49) none (.nck (.t 40))), (.op (some 50) none (.fad 39 (.t 49))),
  (.op none none (.st (.t 50) (.t 48)))]) (.reg [(.op (some 51) none (.mv (.t 3))), (.op (some 52) none (.mv (.t 5))), (.op (some 53) none (.nck (.t 51))), (.op (some
  54) none (.fad 13 (.t 53))), (.op (some 55) none (.iada 13 1 (.t 54) (.t 52))), (.op (some 56) none (.ld (.t 55))), (.op (some 57) none (.bin .add (.t 56) (.c (.int
  .i64 1)))), (.op (some 58) none (.nck (.t 51))), (.op (some 59) none (.fad 13 (.t 58))), (.op (some 60) none (.iada 13 1 (.t 59) (.t 52))), (.op none none (.st (.t 60)
  (.t 57)))])) .skip)))) (.reg [(.op (some 61) none (.bin .add (.t 32) (.c (.int .i64 1)))), (.op (some 32) none (.mv (.t 61)))]))))))) (.reg [(.op (some 62) none (.mv
  (.t 4))), (.op (some 63) none (.mv (.t 3))), (.op (some 64) none (.mv (.t 5))), (.op (some 65) none (.nck (.t 63))), (.op (some 66) none (.fad 13 (.t 65))), (.op (some
  67) none (.iada 13 1 (.t 66) (.t 64))), (.op (some 68) none (.ld (.t 67))), (.op (some 69) none (.bin .add (.t 62) (.t 68))), (.op (some 70) none (.bin .shl (.t 69)
  (.c (.int .u64 1)))), (.op (some 4) none (.mv (.t 70)))])))) (.reg [(.op (some 12) none (.mv (.t 5))), (.op (some 13) none (.bin .add (.t 12) (.c (.int .i64 1)))),
  (.op (some 5) none (.mv (.t 13)))])))
def s73_0 (S : Sys) (e : Fe) (H : Heap) (Q : Kx) : Prop := run S (.bin .leq (.c (e 5)) (.c (.int .i64 11))) [] H fun t11_6 H => jn (sq (fun e8 H => jn (sq (fun e10 H =>
  run S (.bin .add (.c (e10 5)) (.c (.int .i64 1))) [] H fun t13_11 H => Q .normal (upd (upd (upd e10 12 (e10 5)) 13 t13_11) 5 t13_11) H) Q) fun Q9 => run S (.nck (.c
  (e8 3))) [] H fun t20_12 H => run S (.fad 39 (.c t20_12)) [] H fun t21_13 H => run S (.ld (.c t21_13)) [] H fun t22_14 H => run S (.lenL (.c t22_14)) [] H fun t23_15 H
  => run S (.nck (.c (e8 3))) [] H fun t24_16 H => run S (.fad 0 (.c t24_16)) [] H fun t25_17 H => run S (.iada 13 1 (.c t25_17) (.c (e8 5))) [] H fun t26_18 H => run S
  (.nck (.c (e8 3))) [] H fun t27_19 H => run S (.fad 26 (.c t27_19)) [] H fun t28_20 H => run S (.st (.c t26_18) (.c (e8 4))) [] H fun _ H => run S (.iada 13 1 (.c
  t28_20) (.c (e8 5))) [] H fun t29_21 H => run S (.st (.c t29_21) (.c t23_15)) [] H fun _ H => run S (.lenL (.c (e8 0))) [] H fun t31_22 H => jn (blk 1 Q9) fun Q23 =>
  jn (sq (fun e25 H => run S (.nck (.c (e25 3))) [] H fun t65_26 H => run S (.fad 13 (.c t65_26)) [] H fun t66_27 H => run S (.iada 13 1 (.c t66_27) (.c (e25 5))) [] H
  fun t67_28 H => run S (.ld (.c t67_28)) [] H fun t68_29 H => run S (.bin .add (.c (e25 4)) (.c t68_29)) [] H fun t69_30 H => run S (.bin .shl (.c t69_30) (.c (.int
  .u64 1))) [] H fun t70_31 H => Q23 .normal (upd (upd (upd (upd (upd (upd (upd (upd (upd (upd e25 62 (e25 4)) 63 (e25 3)) 64 (e25 5)) 65 t65_26) 66 t66_27) 67 t67_28)
  68 t68_29) 69 t69_30) 70 t70_31) 4 t70_31) H) Q23) fun Q24 => jn (blk 2 Q24) fun Q32 => WL S b73_1 (upd (upd (upd (upd (upd (upd (upd (upd (upd (upd (upd (upd (upd
  (upd (upd (upd (upd (upd (upd e8 14 (e8 3)) 15 (e8 5)) 16 (e8 3)) 17 (e8 5)) 18 (e8 4)) 19 (e8 3)) 20 t20_12) 21 t21_13) 22 t22_14) 23 t23_15) 24 t24_16) 25 t25_17) 26
  t26_18) 27 t27_19) 28 t28_20) 29 t29_21) 30 (e8 0)) 31 t31_22) 32 (.int .i64 0)) H Q32) Q) fun Q7 => cnd t11_6 (fun Q33 => Q33 .normal (upd (upd e 10 (e 5)) 11 t11_6)
  H) (fun Q34 => Q34 (.exit 0) (upd (upd e 10 (e 5)) 11 t11_6) H) Q7
theorem h73_0 (S : Sys) (e : Fe) (H : Heap) (Q : Kx) : wpC S b73_0 e H Q = s73_0 S e H Q := by kernel_rfl
theorem l73_0 (S : Sys) {Q : Kx} (I : Nat → Fe → Heap → Prop) (d : Nat) {e0 : Fe} {H : Heap} (h0 : I d e0 H) (hr : ∀ (d : Nat) (e : Fe) (H : Heap), I d e H → s73_0 S e H
  (sq (fun e' H' => ∃ d', d' < d ∧ I d' e' H') Q)) : WL S b73_0 e0 H Q := WL_inv I d h0 fun d e H hi => (h73_0 S e H _).mpr (hr d e H hi)
theorem u73_0 (S : Sys) {Q : Kx} {e : Fe} {H : Heap} (h : s73_0 S e H (sq (fun e' H' => WL S b73_0 e' H' Q) Q)) : WL S b73_0 e H Q := WL_once ((h73_0 S e H _).mpr h)
def s73 (S : Sys) (a0 : Value) (H : Heap) (R : Kv) : Prop := run S (.build [(.int .i64 0), (.int .i64 0), (.int .i64 0), (.int .i64 0), (.int .i64 0), (.int .i64 0),
  (.int .i64 0), (.int .i64 0), (.int .i64 0), (.int .i64 0), (.int .i64 0), (.int .i64 0), (.int .i64 0), (.int .i64 0), (.int .i64 0), (.int .i64 0), (.int .i64 0),
  (.int .i64 0), (.int .i64 0), (.int .i64 0), (.int .i64 0), (.int .i64 0), (.int .i64 0), (.int .i64 0), (.int .i64 0), (.int .i64 0), (.int .i64 0), (.int .i64 0),
  (.int .i64 0), (.int .i64 0), (.int .i64 0), (.int .i64 0), (.int .i64 0), (.int .i64 0), (.int .i64 0), (.int .i64 0), (.int .i64 0), (.int .i64 0), (.int .i64 0),
  (.slice none 0 0)] []) [] H fun t8_1 H => run S (.box 127 (.c t8_1)) [] H fun t9_2 H => jn (sq (fun e4 H => R (e4 3) H) (fn [(.t 2)] R)) fun Q3 => jn (blk 0 Q3) fun Q5
  => WL S b73_0 (upd (upd (upd (upd (upd (upd (Env.get [a0]) 2 (.pointer none)) 8 t8_1) 9 t9_2) 3 t9_2) 4 (.int .i64 0)) 5 (.int .i64 1)) H Q5
theorem h73 (S : Sys) (a0 : Value) (H : Heap) (R : Kv) : wpC S k73.body (Env.get [a0]) H (fn [(.t 2)] R) = s73 S a0 H R := by kernel_rfl
theorem w73 {S : Sys} (hR : S.R 73 = none) (hF : S.F 73 = some k73) (a0 : Value) {H : Heap} {R : Kv} (h : s73 S a0 H R) : Wf S 73 [a0] H R := Wf_sh hR hF ((h73 S a0 H
  R).mpr h)
def s74 (S : Sys) (a0 : Value) (H : Heap) (R : Kv) : Prop := run S (.app 5 1 1 (.c (.slice none 0 0)) (.c a0)) [] H fun t4_1 H => run S (.build [(.slice none 0 0), (.int
  .i64 0)] [(0, (1, (.c t4_1)))]) [] H fun t5_2 H => run S (.box 129 (.c t5_2)) [] H fun t6_3 H => R t6_3 H
theorem h74 (S : Sys) (a0 : Value) (H : Heap) (R : Kv) : wpC S k74.body (Env.get [a0]) H (fn [(.t 2)] R) = s74 S a0 H R := by kernel_rfl
theorem w74 {S : Sys} (hR : S.R 74 = none) (hF : S.F 74 = some k74) (a0 : Value) {H : Heap} {R : Kv} (h : s74 S a0 H R) : Wf S 74 [a0] H R := Wf_sh hR hF ((h74 S a0 H
  R).mpr h)
def b75_0 : KCode := (.seq (.seq (.reg [(.op (some 11) none (.mv (.t 7))), (.op (some 12) none (.bin .leq (.t 11) (.c (.int .i64 11))))]) (.cond (.t 12) .skip (.exit
  0))) (.seq (.block 1 (.seq (.reg [(.op (some 16) none (.mv (.t 1))), (.op (some 17) none (.call 77 [(.t 16), (.c (.int .i64 1))])), (.op (some 15) none (.mv (.t 17))),
  (.op (some 18) none (.xt (.t 15) 0)), (.op (some 19) none (.xt (.t 15) 1)), (.op (some 8) none (.mv (.t 18))), (.op (some 9) none (.mv (.t 19)))]) (.seq (.seq (.reg
  [(.op (some 20) none (.mv (.t 9))), (.op (some 21) none (.un .not (.t 20)))]) (.cond (.t 21) (.seq (.reg [(.op (some 4) none (.mv (.c (.int .u8 0)))), (.op (some 5)
  none (.mv (.c (.bool false))))]) .ret) .skip)) (.seq (.reg [(.op (some 22) none (.mv (.t 6))), (.op (some 23) none (.bin .shl (.t 22) (.c (.int .u64 1)))), (.op (some
  24) none (.mv (.t 8))), (.op (some 25) none (.cvt .i64 (.t 24))), (.op (some 26) none (.bin .or (.t 23) (.t 25))), (.op (some 6) none (.mv (.t 26)))]) (.seq (.reg
  [(.op (some 27) none (.mv (.t 6))), (.op (some 28) none (.mv (.t 0))), (.op (some 29) none (.mv (.t 7))), (.op (some 30) none (.nck (.t 28))), (.op (some 31) none
  (.fad 0 (.t 30))), (.op (some 32) none (.iada 13 1 (.t 31) (.t 29))), (.op (some 33) none (.ld (.t 32))), (.op (some 34) none (.bin .sub (.t 27) (.t 33))), (.op (some
  10) none (.mv (.t 34)))]) (.seq (.reg [(.op (some 35) none (.mv (.t 10))), (.op (some 36) none (.bin .geq (.t 35) (.c (.int .i64 0)))), (.op (some 37) none (.mv (.t
  36))), (.op (some 38) (some (37, true)) (.mv (.t 10))), (.op (some 39) (some (37, true)) (.mv (.t 0))), (.op (some 40) (some (37, true)) (.mv (.t 7))), (.op (some 41)
  (some (37, true)) (.nck (.t 39))), (.op (some 42) (some (37, true)) (.fad 13 (.t 41))), (.op (some 43) (some (37, true)) (.iada 13 1 (.t 42) (.t 40))), (.op (some 44)
  (some (37, true)) (.ld (.t 43))), (.op (some 45) (some (37, true)) (.bin .lss (.t 38) (.t 44))), (.op (some 46) none (.pick (.t 37) (.t 45) (.c (.bool false))))])
  (.cond (.t 46) (.seq (.reg [(.op (some 47) none (.mv (.t 0))), (.op (some 48) none (.nck (.t 47))), (.op (some 49) none (.fad 39 (.t 48))), (.op (some 50) none (.ld
  (.t 49))), (.op (some 51) none (.mv (.t 0))), (.op (some 52) none (.mv (.t 7))), (.op (some 53) none (.nck (.t 51))), (.op (some 54) none (.fad 26 (.t 53))), (.op
  (some 55) none (.iada 13 1 (.t 54) (.t 52))), (.op (some 56) none (.ld (.t 55))), (.op (some 57) none (.mv (.t 10))), (.op (some 58) none (.bin .add (.t 56) (.t 57))),
  (.op (some 59) none (.iad 1 (.t 50) (.t 58))), (.op (some 60) none (.ld (.t 59))), (.op (some 4) none (.mv (.t 60))), (.op (some 5) none (.mv (.c (.bool true))))])
  .ret) .skip))))))) (.reg [(.op (some 13) none (.mv (.t 7))), (.op (some 14) none (.bin .add (.t 13) (.c (.int .i64 1)))), (.op (some 7) none (.mv (.t 14)))])))
def s75_0 (S : Sys) (e : Fe) (H : Heap) (Q : Kx) : Prop := run S (.bin .leq (.c (e 7)) (.c (.int .i64 11))) [] H fun t12_4 H => jn (sq (fun e6 H => jn (sq (fun e8 H =>
  run S (.bin .add (.c (e8 7)) (.c (.int .i64 1))) [] H fun t14_9 H => Q .normal (upd (upd (upd e8 13 (e8 7)) 14 t14_9) 7 t14_9) H) Q) fun Q7 => run S (.call 77 [(.c (e6
  1)), (.c (.int .i64 1))]) [] H fun t17_10 H => run S (.xt (.c t17_10) 0) [] H fun t18_11 H => run S (.xt (.c t17_10) 1) [] H fun t19_12 H => run S (.un .not (.c
  t19_12)) [] H fun t21_13 H => jn (blk 1 Q7) fun Q14 => jn (sq (fun e16 H => run S (.bin .shl (.c (e16 6)) (.c (.int .u64 1))) [] H fun t23_17 H => run S (.cvt .i64 (.c
  (e16 8))) [] H fun t25_18 H => run S (.bin .or (.c t23_17) (.c t25_18)) [] H fun t26_19 H => run S (.nck (.c (e16 0))) [] H fun t30_20 H => run S (.fad 0 (.c t30_20))
  [] H fun t31_21 H => run S (.iada 13 1 (.c t31_21) (.c (e16 7))) [] H fun t32_22 H => run S (.ld (.c t32_22)) [] H fun t33_23 H => run S (.bin .sub (.c t26_19) (.c
  t33_23)) [] H fun t34_24 H => run S (.bin .geq (.c t34_24) (.c (.int .i64 0))) [] H fun t36_25 H => gd t36_25 true (run S (.mv (.c t34_24)) [] H) H fun t38_26 H => gd
  t36_25 true (run S (.mv (.c (e16 0))) [] H) H fun t39_27 H => gd t36_25 true (run S (.mv (.c (e16 7))) [] H) H fun t40_28 H => gd t36_25 true (run S (.nck (.c t39_27))
  [] H) H fun t41_29 H => gd t36_25 true (run S (.fad 13 (.c t41_29)) [] H) H fun t42_30 H => gd t36_25 true (run S (.iada 13 1 (.c t42_30) (.c t40_28)) [] H) H fun
  t43_31 H => gd t36_25 true (run S (.ld (.c t43_31)) [] H) H fun t44_32 H => gd t36_25 true (run S (.bin .lss (.c t38_26) (.c t44_32)) [] H) H fun t45_33 H => run S
  (.pick (.c t36_25) (.c t45_33) (.c (.bool false))) [] H fun t46_34 H => cnd t46_34 (fun Q35 => run S (.nck (.c (e16 0))) [] H fun t48_37 H => run S (.fad 39 (.c
  t48_37)) [] H fun t49_38 H => run S (.ld (.c t49_38)) [] H fun t50_39 H => run S (.nck (.c (e16 0))) [] H fun t53_40 H => run S (.fad 26 (.c t53_40)) [] H fun t54_41 H
  => run S (.iada 13 1 (.c t54_41) (.c (e16 7))) [] H fun t55_42 H => run S (.ld (.c t55_42)) [] H fun t56_43 H => run S (.bin .add (.c t56_43) (.c t34_24)) [] H fun
  t58_44 H => run S (.iad 1 (.c t50_39) (.c t58_44)) [] H fun t59_45 H => run S (.ld (.c t59_45)) [] H fun t60_46 H => Q35 .ret (upd (upd (upd (upd (upd (upd (upd (upd
  (upd (upd (upd (upd (upd (upd (upd (upd (upd (upd (upd (upd (upd (upd (upd (upd (upd (upd (upd (upd (upd (upd (upd (upd (upd (upd (upd (upd (upd (upd (upd (upd (upd
  (upd (upd e16 22 (e16 6)) 23 t23_17) 24 (e16 8)) 25 t25_18) 26 t26_19) 6 t26_19) 27 t26_19) 28 (e16 0)) 29 (e16 7)) 30 t30_20) 31 t31_21) 32 t32_22) 33 t33_23) 34
  t34_24) 10 t34_24) 35 t34_24) 36 t36_25) 37 t36_25) 38 t38_26) 39 t39_27) 40 t40_28) 41 t41_29) 42 t42_30) 43 t43_31) 44 t44_32) 45 t45_33) 46 t46_34) 47 (e16 0)) 48
  t48_37) 49 t49_38) 50 t50_39) 51 (e16 0)) 52 (e16 7)) 53 t53_40) 54 t54_41) 55 t55_42) 56 t56_43) 57 t34_24) 58 t58_44) 59 t59_45) 60 t60_46) 4 t60_46) 5 (.bool true))
  H) (fun Q36 => Q36 .normal (upd (upd (upd (upd (upd (upd (upd (upd (upd (upd (upd (upd (upd (upd (upd (upd (upd (upd (upd (upd (upd (upd (upd (upd (upd (upd (upd e16
  22 (e16 6)) 23 t23_17) 24 (e16 8)) 25 t25_18) 26 t26_19) 6 t26_19) 27 t26_19) 28 (e16 0)) 29 (e16 7)) 30 t30_20) 31 t31_21) 32 t32_22) 33 t33_23) 34 t34_24) 10 t34_24)
  35 t34_24) 36 t36_25) 37 t36_25) 38 t38_26) 39 t39_27) 40 t40_28) 41 t41_29) 42 t42_30) 43 t43_31) 44 t44_32) 45 t45_33) 46 t46_34) H) Q14) Q14) fun Q15 => cnd t21_13
  (fun Q47 => Q47 .ret (upd (upd (upd (upd (upd (upd (upd (upd (upd (upd (upd e6 16 (e6 1)) 17 t17_10) 15 t17_10) 18 t18_11) 19 t19_12) 8 t18_11) 9 t19_12) 20 t19_12) 21
  t21_13) 4 (.int .u8 0)) 5 (.bool false)) H) (fun Q48 => Q48 .normal (upd (upd (upd (upd (upd (upd (upd (upd (upd e6 16 (e6 1)) 17 t17_10) 15 t17_10) 18 t18_11) 19
  t19_12) 8 t18_11) 9 t19_12) 20 t19_12) 21 t21_13) H) Q15) Q) fun Q5 => cnd t12_4 (fun Q49 => Q49 .normal (upd (upd e 11 (e 7)) 12 t12_4) H) (fun Q50 => Q50 (.exit 0)
  (upd (upd e 11 (e 7)) 12 t12_4) H) Q5
theorem h75_0 (S : Sys) (e : Fe) (H : Heap) (Q : Kx) : wpC S b75_0 e H Q = s75_0 S e H Q := by kernel_rfl
theorem l75_0 (S : Sys) {Q : Kx} (I : Nat → Fe → Heap → Prop) (d : Nat) {e0 : Fe} {H : Heap} (h0 : I d e0 H) (hr : ∀ (d : Nat) (e : Fe) (H : Heap), I d e H → s75_0 S e H
  (sq (fun e' H' => ∃ d', d' < d ∧ I d' e' H') Q)) : WL S b75_0 e0 H Q := WL_inv I d h0 fun d e H hi => (h75_0 S e H _).mpr (hr d e H hi)
theorem u75_0 (S : Sys) {Q : Kx} {e : Fe} {H : Heap} (h : s75_0 S e H (sq (fun e' H' => WL S b75_0 e' H' Q) Q)) : WL S b75_0 e H Q := WL_once ((h75_0 S e H _).mpr h)
def s75 (S : Sys) (a0 a1 : Value) (H : Heap) (R : Kv) : Prop := jn (sq (fun e2 H => R (tup [(.int .u8 0), (.bool false)]) H) (fn [(.t 4), (.t 5)] R)) fun Q1 => jn (blk 0
  Q1) fun Q3 => WL S b75_0 (upd (upd (upd (upd (Env.get [a0, a1]) 4 (.int .u8 0)) 5 (.bool false)) 6 (.int .i64 0)) 7 (.int .i64 1)) H Q3
theorem h75 (S : Sys) (a0 a1 : Value) (H : Heap) (R : Kv) : wpC S k75.body (Env.get [a0, a1]) H (fn [(.t 4), (.t 5)] R) = s75 S a0 a1 H R := by kernel_rfl
theorem w75 {S : Sys} (hR : S.R 75 = none) (hF : S.F 75 = some k75) (a0 a1 : Value) {H : Heap} {R : Kv} (h : s75 S a0 a1 H R) : Wf S 75 [a0, a1] H R := Wf_sh hR hF ((h75
  S a0 a1 H R).mpr h)
def s76 (S : Sys) (a0 : Value) (H : Heap) (R : Kv) : Prop := run S (.eqv .ptr false (.c a0) (.c (.pointer none))) [] H fun t4_1 H => jn (sq (fun e3 H => run S (.nck (.c
  (e3 0))) [] H fun t6_4 H => run S (.fad 0 (.c t6_4)) [] H fun t7_5 H => run S (.ld (.c t7_5)) [] H fun t8_6 H => run S (.lenL (.c t8_6)) [] H fun t9_7 H => run S (.bin
  .mul (.c (.int .i64 8)) (.c t9_7)) [] H fun t10_8 H => run S (.nck (.c (e3 0))) [] H fun t12_9 H => run S (.fad 1 (.c t12_9)) [] H fun t13_10 H => run S (.ld (.c
  t13_10)) [] H fun t14_11 H => run S (.bin .sub (.c t10_8) (.c t14_11)) [] H fun t15_12 H => R t15_12 H) (fn [(.t 2)] R)) fun Q2 => cnd t4_1 (fun Q13 => Q13 .ret (upd
  (upd (upd (upd (Env.get [a0]) 2 (.int .i64 0)) 3 a0) 4 t4_1) 2 (.int .i64 0)) H) (fun Q14 => Q14 .normal (upd (upd (upd (Env.get [a0]) 2 (.int .i64 0)) 3 a0) 4 t4_1)
  H) Q2
theorem h76 (S : Sys) (a0 : Value) (H : Heap) (R : Kv) : wpC S k76.body (Env.get [a0]) H (fn [(.t 2)] R) = s76 S a0 H R := by kernel_rfl
theorem w76 {S : Sys} (hR : S.R 76 = none) (hF : S.F 76 = some k76) (a0 : Value) {H : Heap} {R : Kv} (h : s76 S a0 H R) : Wf S 76 [a0] H R := Wf_sh hR hF ((h76 S a0 H
  R).mpr h)
def b77_0 : KCode := (.seq (.seq (.reg [(.op (some 24) none (.mv (.t 7))), (.op (some 25) none (.mv (.t 1))), (.op (some 26) none (.bin .lss (.t 24) (.t 25)))]) (.cond
  (.t 26) .skip (.exit 0))) (.block 1 (.seq (.reg [(.op (some 27) none (.mv (.t 0))), (.op (some 28) none (.nck (.t 27))), (.op (some 29) none (.fad 1 (.t 28))), (.op
  (some 30) none (.ld (.t 29))), (.op (some 31) none (.bin .and (.t 30) (.c (.int .i64 7)))), (.op (some 8) none (.mv (.t 31)))]) (.seq (.reg [(.op (some 32) none (.mv
  (.t 1))), (.op (some 33) none (.mv (.t 7))), (.op (some 34) none (.bin .sub (.t 32) (.t 33))), (.op (some 35) none (.mv (.t 8))), (.op (some 36) none (.bin .sub (.c
  (.int .i64 8)) (.t 35))), (.op (some 37) none (.mn (.t 34) [(.t 36)])), (.op (some 9) none (.mv (.t 37)))]) (.seq (.reg [(.op (some 38) none (.mv (.t 0))), (.op (some
  39) none (.nck (.t 38))), (.op (some 40) none (.fad 0 (.t 39))), (.op (some 41) none (.ld (.t 40))), (.op (some 42) none (.mv (.t 0))), (.op (some 43) none (.nck (.t
  42))), (.op (some 44) none (.fad 1 (.t 43))), (.op (some 45) none (.ld (.t 44))), (.op (some 46) none (.bin .shr (.t 45) (.c (.int .u64 3)))), (.op (some 47) none
  (.iad 1 (.t 41) (.t 46))), (.op (some 48) none (.ld (.t 47))), (.op (some 49) none (.mv (.t 8))), (.op (some 50) none (.bin .shr (.t 48) (.t 49))), (.op (some 51) none
  (.cvt .u32 (.t 50))), (.op (some 52) none (.mv (.t 9))), (.op (some 53) none (.bin .shl (.c (.int .u32 1)) (.t 52))), (.op (some 54) none (.bin .sub (.t 53) (.c (.int
  .u32 1)))), (.op (some 55) none (.bin .and (.t 51) (.t 54))), (.op (some 10) none (.mv (.t 55)))]) (.seq (.reg [(.op (some 56) none (.mv (.t 6))), (.op (some 57) none
  (.mv (.t 10))), (.op (some 58) none (.mv (.t 7))), (.op (some 59) none (.bin .shl (.t 57) (.t 58))), (.op (some 60) none (.bin .or (.t 56) (.t 59))), (.op (some 6)
  none (.mv (.t 60)))]) (.seq (.reg [(.op (some 61) none (.mv (.t 7))), (.op (some 62) none (.mv (.t 9))), (.op (some 63) none (.bin .add (.t 61) (.t 62))), (.op (some
  7) none (.mv (.t 63)))]) (.reg [(.op (some 64) none (.mv (.t 0))), (.op (some 65) none (.nck (.t 64))), (.op (some 66) none (.fad 1 (.t 65))), (.op (some 67) none (.ld
  (.t 66))), (.op (some 68) none (.mv (.t 9))), (.op (some 69) none (.bin .add (.t 67) (.t 68))), (.op (some 70) none (.nck (.t 64))), (.op (some 71) none (.fad 1 (.t
  70))), (.op none none (.st (.t 71) (.t 69)))]))))))))
def s77_0 (S : Sys) (e : Fe) (H : Heap) (Q : Kx) : Prop := run S (.bin .lss (.c (e 7)) (.c (e 1))) [] H fun t26_18 H => jn (sq (fun e20 H => run S (.nck (.c (e20 0))) []
  H fun t28_21 H => run S (.fad 1 (.c t28_21)) [] H fun t29_22 H => run S (.ld (.c t29_22)) [] H fun t30_23 H => run S (.bin .and (.c t30_23) (.c (.int .i64 7))) [] H
  fun t31_24 H => run S (.bin .sub (.c (e20 1)) (.c (e20 7))) [] H fun t34_25 H => run S (.bin .sub (.c (.int .i64 8)) (.c t31_24)) [] H fun t36_26 H => run S (.mn (.c
  t34_25) [(.c t36_26)]) [] H fun t37_27 H => run S (.nck (.c (e20 0))) [] H fun t39_28 H => run S (.fad 0 (.c t39_28)) [] H fun t40_29 H => run S (.ld (.c t40_29)) [] H
  fun t41_30 H => run S (.nck (.c (e20 0))) [] H fun t43_31 H => run S (.fad 1 (.c t43_31)) [] H fun t44_32 H => run S (.ld (.c t44_32)) [] H fun t45_33 H => run S (.bin
  .shr (.c t45_33) (.c (.int .u64 3))) [] H fun t46_34 H => run S (.iad 1 (.c t41_30) (.c t46_34)) [] H fun t47_35 H => run S (.ld (.c t47_35)) [] H fun t48_36 H => run
  S (.bin .shr (.c t48_36) (.c t31_24)) [] H fun t50_37 H => run S (.cvt .u32 (.c t50_37)) [] H fun t51_38 H => run S (.bin .shl (.c (.int .u32 1)) (.c t37_27)) [] H fun
  t53_39 H => run S (.bin .sub (.c t53_39) (.c (.int .u32 1))) [] H fun t54_40 H => run S (.bin .and (.c t51_38) (.c t54_40)) [] H fun t55_41 H => run S (.bin .shl (.c
  t55_41) (.c (e20 7))) [] H fun t59_42 H => run S (.bin .or (.c (e20 6)) (.c t59_42)) [] H fun t60_43 H => run S (.bin .add (.c (e20 7)) (.c t37_27)) [] H fun t63_44 H
  => run S (.nck (.c (e20 0))) [] H fun t65_45 H => run S (.fad 1 (.c t65_45)) [] H fun t66_46 H => run S (.ld (.c t66_46)) [] H fun t67_47 H => run S (.bin .add (.c
  t67_47) (.c t37_27)) [] H fun t69_48 H => run S (.nck (.c (e20 0))) [] H fun t70_49 H => run S (.fad 1 (.c t70_49)) [] H fun t71_50 H => run S (.st (.c t71_50) (.c
  t69_48)) [] H fun _ H => Q .normal (upd (upd (upd (upd (upd (upd (upd (upd (upd (upd (upd (upd (upd (upd (upd (upd (upd (upd (upd (upd (upd (upd (upd (upd (upd (upd
  (upd (upd (upd (upd (upd (upd (upd (upd (upd (upd (upd (upd (upd (upd (upd (upd (upd (upd (upd (upd (upd (upd (upd (upd e20 27 (e20 0)) 28 t28_21) 29 t29_22) 30
  t30_23) 31 t31_24) 8 t31_24) 32 (e20 1)) 33 (e20 7)) 34 t34_25) 35 t31_24) 36 t36_26) 37 t37_27) 9 t37_27) 38 (e20 0)) 39 t39_28) 40 t40_29) 41 t41_30) 42 (e20 0)) 43
  t43_31) 44 t44_32) 45 t45_33) 46 t46_34) 47 t47_35) 48 t48_36) 49 t31_24) 50 t50_37) 51 t51_38) 52 t37_27) 53 t53_39) 54 t54_40) 55 t55_41) 10 t55_41) 56 (e20 6)) 57
  t55_41) 58 (e20 7)) 59 t59_42) 60 t60_43) 6 t60_43) 61 (e20 7)) 62 t37_27) 63 t63_44) 7 t63_44) 64 (e20 0)) 65 t65_45) 66 t66_46) 67 t67_47) 68 t37_27) 69 t69_48) 70
  t70_49) 71 t71_50) H) Q) fun Q19 => cnd t26_18 (fun Q51 => Q51 .normal (upd (upd (upd e 24 (e 7)) 25 (e 1)) 26 t26_18) H) (fun Q52 => Q52 (.exit 0) (upd (upd (upd e 24
  (e 7)) 25 (e 1)) 26 t26_18) H) Q19
theorem h77_0 (S : Sys) (e : Fe) (H : Heap) (Q : Kx) : wpC S b77_0 e H Q = s77_0 S e H Q := by kernel_rfl
theorem l77_0 (S : Sys) {Q : Kx} (I : Nat → Fe → Heap → Prop) (d : Nat) {e0 : Fe} {H : Heap} (h0 : I d e0 H) (hr : ∀ (d : Nat) (e : Fe) (H : Heap), I d e H → s77_0 S e H
  (sq (fun e' H' => ∃ d', d' < d ∧ I d' e' H') Q)) : WL S b77_0 e0 H Q := WL_inv I d h0 fun d e H hi => (h77_0 S e H _).mpr (hr d e H hi)
theorem u77_0 (S : Sys) {Q : Kx} {e : Fe} {H : Heap} (h : s77_0 S e H (sq (fun e' H' => WL S b77_0 e' H' Q) Q)) : WL S b77_0 e H Q := WL_once ((h77_0 S e H _).mpr h)
def s77 (S : Sys) (a0 a1 : Value) (H : Heap) (R : Kv) : Prop := run S (.eqv .ptr false (.c a0) (.c (.pointer none))) [] H fun t12_1 H => gd t12_1 false (run S (.mv (.c
  a1)) [] H) H fun t14_2 H => gd t12_1 false (run S (.call 88 [(.c t14_2)]) [] H) H fun t15_3 H => gd t12_1 false (run S (.un .not (.c t15_3)) [] H) H fun t16_4 H => run
  S (.pick (.c t12_1) (.c (.bool true)) (.c t16_4)) [] H fun t17_5 H => gd t17_5 false (run S (.mv (.c a1)) [] H) H fun t19_6 H => gd t17_5 false (run S (.mv (.c a0)) []
  H) H fun t20_7 H => gd t17_5 false (run S (.call 76 [(.c t20_7)]) [] H) H fun t21_8 H => gd t17_5 false (run S (.bin .gtr (.c t19_6) (.c t21_8)) [] H) H fun t22_9 H =>
  run S (.pick (.c t17_5) (.c (.bool true)) (.c t22_9)) [] H fun t23_10 H => jn (sq (fun e12 H => jn (sq (fun e14 H => R (tup [(e14 6), (.bool true)]) H) (fn [(.t 4),
  (.t 5)] R)) fun Q13 => jn (blk 0 Q13) fun Q15 => WL S b77_0 (upd (upd e12 6 (.int .u32 0)) 7 (.int .i64 0)) H Q15) (fn [(.t 4), (.t 5)] R)) fun Q11 => cnd t23_10 (fun
  Q16 => Q16 .ret (upd (upd (upd (upd (upd (upd (upd (upd (upd (upd (upd (upd (upd (upd (upd (upd (upd (Env.get [a0, a1]) 4 (.int .u32 0)) 5 (.bool false)) 11 a0) 12
  t12_1) 13 t12_1) 14 t14_2) 15 t15_3) 16 t16_4) 17 t17_5) 18 t17_5) 19 t19_6) 20 t20_7) 21 t21_8) 22 t22_9) 23 t23_10) 4 (.int .u32 0)) 5 (.bool false)) H) (fun Q17 =>
  Q17 .normal (upd (upd (upd (upd (upd (upd (upd (upd (upd (upd (upd (upd (upd (upd (upd (Env.get [a0, a1]) 4 (.int .u32 0)) 5 (.bool false)) 11 a0) 12 t12_1) 13 t12_1)
  14 t14_2) 15 t15_3) 16 t16_4) 17 t17_5) 18 t17_5) 19 t19_6) 20 t20_7) 21 t21_8) 22 t22_9) 23 t23_10) H) Q11
theorem h77 (S : Sys) (a0 a1 : Value) (H : Heap) (R : Kv) : wpC S k77.body (Env.get [a0, a1]) H (fn [(.t 4), (.t 5)] R) = s77 S a0 a1 H R := by kernel_rfl
theorem w77 {S : Sys} (hR : S.R 77 = none) (hF : S.F 77 = some k77) (a0 a1 : Value) {H : Heap} {R : Kv} (h : s77 S a0 a1 H R) : Wf S 77 [a0, a1] H R := Wf_sh hR hF ((h77
  S a0 a1 H R).mpr h)
def b87_0 : KCode := (.seq (.reg [(.op (some 8) none (.bin .lss (.t 7) (.t 6)))]) (.seq (.cond (.t 8) .skip (.exit 0)) (.seq (.block 1 (.seq (.reg [(.op (some 9) none
  (.iad 1 (.t 5) (.t 7))), (.op (some 10) none (.ld (.t 9))), (.op (some 4) none (.mv (.t 10)))]) (.seq (.reg [(.op (some 11) none (.mv (.t 4))), (.op (some 12) none
  (.bin .lss (.t 11) (.c (.int .i64 0)))), (.op (some 13) none (.mv (.t 12))), (.op (some 14) (some (13, false)) (.mv (.t 4))), (.op (some 15) (some (13, false)) (.bin
  .gtr (.t 14) (.c (.int .i64 11)))), (.op (some 16) none (.pick (.t 13) (.c (.bool true)) (.t 15)))]) (.cond (.t 16) (.seq (.reg [(.op (some 2) none (.mv (.c (.bool
  false))))]) .ret) .skip)))) (.reg [(.op (some 17) none (.bin .add (.t 7) (.c (.int .i64 1)))), (.op (some 7) none (.mv (.t 17)))]))))
def s87_0 (S : Sys) (e : Fe) (H : Heap) (Q : Kx) : Prop := run S (.bin .lss (.c (e 7)) (.c (e 6))) [] H fun t8_7 H => jn (sq (fun e9 H => jn (sq (fun e11 H => run S
  (.bin .add (.c (e11 7)) (.c (.int .i64 1))) [] H fun t17_12 H => Q .normal (upd (upd e11 17 t17_12) 7 t17_12) H) Q) fun Q10 => run S (.iad 1 (.c (e9 5)) (.c (e9 7)))
  [] H fun t9_13 H => run S (.ld (.c t9_13)) [] H fun t10_14 H => run S (.bin .lss (.c t10_14) (.c (.int .i64 0))) [] H fun t12_15 H => gd t12_15 false (run S (.mv (.c
  t10_14)) [] H) H fun t14_16 H => gd t12_15 false (run S (.bin .gtr (.c t14_16) (.c (.int .i64 11))) [] H) H fun t15_17 H => run S (.pick (.c t12_15) (.c (.bool true))
  (.c t15_17)) [] H fun t16_18 H => jn (blk 1 Q10) fun Q19 => cnd t16_18 (fun Q20 => Q20 .ret (upd (upd (upd (upd (upd (upd (upd (upd (upd (upd e9 9 t9_13) 10 t10_14) 4
  t10_14) 11 t10_14) 12 t12_15) 13 t12_15) 14 t14_16) 15 t15_17) 16 t16_18) 2 (.bool false)) H) (fun Q21 => Q21 .normal (upd (upd (upd (upd (upd (upd (upd (upd (upd e9 9
  t9_13) 10 t10_14) 4 t10_14) 11 t10_14) 12 t12_15) 13 t12_15) 14 t14_16) 15 t15_17) 16 t16_18) H) Q19) Q) fun Q8 => cnd t8_7 (fun Q22 => Q22 .normal (upd e 8 t8_7) H)
  (fun Q23 => Q23 (.exit 0) (upd e 8 t8_7) H) Q8
theorem h87_0 (S : Sys) (e : Fe) (H : Heap) (Q : Kx) : wpC S b87_0 e H Q = s87_0 S e H Q := by kernel_rfl
theorem l87_0 (S : Sys) {Q : Kx} (I : Nat → Fe → Heap → Prop) (d : Nat) {e0 : Fe} {H : Heap} (h0 : I d e0 H) (hr : ∀ (d : Nat) (e : Fe) (H : Heap), I d e H → s87_0 S e H
  (sq (fun e' H' => ∃ d', d' < d ∧ I d' e' H') Q)) : WL S b87_0 e0 H Q := WL_inv I d h0 fun d e H hi => (h87_0 S e H _).mpr (hr d e H hi)
theorem u87_0 (S : Sys) {Q : Kx} {e : Fe} {H : Heap} (h : s87_0 S e H (sq (fun e' H' => WL S b87_0 e' H' Q) Q)) : WL S b87_0 e H Q := WL_once ((h87_0 S e H _).mpr h)
def s87 (S : Sys) (a0 : Value) (H : Heap) (R : Kv) : Prop := run S (.lenL (.c a0)) [] H fun t6_1 H => jn (sq (fun e3 H => run S (.lenL (.c (e3 0))) [] H fun t19_4 H =>
  run S (.bin .leq (.c t19_4) (.c (.int .i64 256))) [] H fun t20_5 H => R t20_5 H) (fn [(.t 2)] R)) fun Q2 => jn (blk 0 Q2) fun Q6 => WL S b87_0 (upd (upd (upd (upd
  (Env.get [a0]) 2 (.bool false)) 5 a0) 6 t6_1) 7 (.int .i64 0)) H Q6
theorem h87 (S : Sys) (a0 : Value) (H : Heap) (R : Kv) : wpC S k87.body (Env.get [a0]) H (fn [(.t 2)] R) = s87 S a0 H R := by kernel_rfl
theorem w87 {S : Sys} (hR : S.R 87 = none) (hF : S.F 87 = some k87) (a0 : Value) {H : Heap} {R : Kv} (h : s87 S a0 H R) : Wf S 87 [a0] H R := Wf_sh hR hF ((h87 S a0 H
  R).mpr h)
def s88 (S : Sys) (a0 : Value) (H : Heap) (R : Kv) : Prop := run S (.bin .geq (.c a0) (.c (.int .i64 0))) [] H fun t4_1 H => gd t4_1 true (run S (.mv (.c a0)) [] H) H
  fun t6_2 H => gd t4_1 true (run S (.bin .leq (.c t6_2) (.c (.int .i64 32))) [] H) H fun t7_3 H => run S (.pick (.c t4_1) (.c t7_3) (.c (.bool false))) [] H fun t8_4 H
  => R t8_4 H
theorem h88 (S : Sys) (a0 : Value) (H : Heap) (R : Kv) : wpC S k88.body (Env.get [a0]) H (fn [(.t 2)] R) = s88 S a0 H R := by kernel_rfl
theorem w88 {S : Sys} (hR : S.R 88 = none) (hF : S.F 88 = some k88) (a0 : Value) {H : Heap} {R : Kv} (h : s88 S a0 H R) : Wf S 88 [a0] H R := Wf_sh hR hF ((h88 S a0 H
  R).mpr h)
end Go.Proofs.YtlboioplemlneaaGreat.K
