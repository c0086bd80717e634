/- The functions as nested words with named values, each held against its code by the kernel. Printed by a program of this work (sh.py). -/
import Derived.Test.YtlboioplemlneaaKLowSh2
set_option maxRecDepth 100000
set_option linter.unusedVariables false
namespace Go.Proofs.Ytlboioplemlneaa.K
open Go Go.Proofs
def b87_0 : KCode := (.seq (.reg [(.op (some 11) none (.bin .lss (.t 10) (.t 9)))]) (.seq (.cond (.t 11) .skip (.exit 0)) (.seq (.block 1 (.seq (.reg [(.op (some 12)
  none (.iad 1 (.t 8) (.t 10))), (.op (some 13) none (.ld (.t 12))), (.op (some 4) none (.mv (.t 13)))]) (.seq (.reg [(.op (some 14) none (.mv (.t 4))), (.op (some 15)
  none (.bin .lss (.t 14) (.c (.int .i64 0)))), (.op (some 16) none (.mv (.t 15))), (.op (some 17) (some (16, false)) (.mv (.t 4))), (.op (some 18) (some (16, false))
  (.bin .gtr (.t 17) (.c (.int .i64 1048576)))), (.op (some 19) none (.pick (.t 16) (.c (.bool true)) (.t 18)))]) (.cond (.t 19) (.seq (.reg [(.op (some 2) none (.mv (.c
  (.bool false))))]) .ret) .skip)))) (.reg [(.op (some 20) none (.bin .add (.t 10) (.c (.int .i64 1)))), (.op (some 10) none (.mv (.t 20)))]))))
def s87_0 (S : Sys) (e : Fe) (H : Heap) (Q : Kx) : Prop := run S (.bin .lss (.c (e 10)) (.c (e 9))) [] H fun t11_13 H => jn (sq (fun e15 H => jn (sq (fun e17 H => run S
  (.bin .add (.c (e17 10)) (.c (.int .i64 1))) [] H fun t20_18 H => Q .normal (upd (upd e17 20 t20_18) 10 t20_18) H) Q) fun Q16 => run S (.iad 1 (.c (e15 8)) (.c (e15
  10))) [] H fun t12_19 H => run S (.ld (.c t12_19)) [] H fun t13_20 H => run S (.bin .lss (.c t13_20) (.c (.int .i64 0))) [] H fun t15_21 H => gd t15_21 false (run S
  (.mv (.c t13_20)) [] H) H fun t17_22 H => gd t15_21 false (run S (.bin .gtr (.c t17_22) (.c (.int .i64 1048576))) [] H) H fun t18_23 H => run S (.pick (.c t15_21) (.c
  (.bool true)) (.c t18_23)) [] H fun t19_24 H => jn (blk 1 Q16) fun Q25 => cnd t19_24 (fun Q26 => Q26 .ret (upd (upd (upd (upd (upd (upd (upd (upd (upd (upd e15 12
  t12_19) 13 t13_20) 4 t13_20) 14 t13_20) 15 t15_21) 16 t15_21) 17 t17_22) 18 t18_23) 19 t19_24) 2 (.bool false)) H) (fun Q27 => Q27 .normal (upd (upd (upd (upd (upd
  (upd (upd (upd (upd e15 12 t12_19) 13 t13_20) 4 t13_20) 14 t13_20) 15 t15_21) 16 t15_21) 17 t17_22) 18 t18_23) 19 t19_24) H) Q25) Q) fun Q14 => cnd t11_13 (fun Q28 =>
  Q28 .normal (upd e 11 t11_13) H) (fun Q29 => Q29 (.exit 0) (upd e 11 t11_13) H) Q14
theorem h87_0 (S : Sys) (e : Fe) (H : Heap) (Q : Kx) : wpC S b87_0 e H Q = s87_0 S e H Q := by kernel_rfl
theorem l87_0 (S : Sys) {Q : Kx} (I : Nat → Fe → Heap → Prop) (d : Nat) {e0 : Fe} {H : Heap} (h0 : I d e0 H) (hr : ∀ (d : Nat) (e : Fe) (H : Heap), I d e H → s87_0 S e H
  (sq (fun e' H' => ∃ d', d' < d ∧ I d' e' H') Q)) : WL S b87_0 e0 H Q := WL_inv I d h0 fun d e H hi => (h87_0 S e H _).mpr (hr d e H hi)
theorem u87_0 (S : Sys) {Q : Kx} {e : Fe} {H : Heap} (h : s87_0 S e H (sq (fun e' H' => WL S b87_0 e' H' Q) Q)) : WL S b87_0 e H Q := WL_once ((h87_0 S e H _).mpr h)
def s87 (S : Sys) (a0 : Value) (H : Heap) (R : Kv) : Prop := run S (.lenL (.c a0)) [] H fun t6_1 H => run S (.bin .gtr (.c t6_1) (.c (.int .i64 256))) [] H fun t7_2 H =>
  jn (sq (fun e4 H => run S (.lenL (.c (e4 0))) [] H fun t9_5 H => jn (sq (fun e7 H => run S (.call 118 [(.c (e7 0))]) [] H fun t22_8 H => run S (.bin .gtr (.c t22_8)
  (.c (.int .i64 0))) [] H fun t23_9 H => R t23_9 H) (fn [(.t 2)] R)) fun Q6 => jn (blk 0 Q6) fun Q10 => WL S b87_0 (upd (upd (upd e4 8 (e4 0)) 9 t9_5) 10 (.int .i64 0))
  H Q10) (fn [(.t 2)] R)) fun Q3 => cnd t7_2 (fun Q11 => Q11 .ret (upd (upd (upd (upd (upd (Env.get [a0]) 2 (.bool false)) 5 a0) 6 t6_1) 7 t7_2) 2 (.bool false)) H) (fun
  Q12 => Q12 .normal (upd (upd (upd (upd (Env.get [a0]) 2 (.bool false)) 5 a0) 6 t6_1) 7 t7_2) H) Q3
theorem h87 (S : Sys) (a0 : Value) (H : Heap) (R : Kv) : wpC S k87.body (Env.get [a0]) H (fn [(.t 2)] R) = s87 S a0 H R := by kernel_rfl
theorem w87 {S : Sys} (hR : S.R 87 = none) (hF : S.F 87 = some k87) (a0 : Value) {H : Heap} {R : Kv} (h : s87 S a0 H R) : Wf S 87 [a0] H R := Wf_sh hR hF ((h87 S a0 H
  R).mpr h)
def b88_1 : KCode := (.seq (.reg [(.op (some 17) none (.bin .lss (.t 16) (.t 15)))]) (.seq (.cond (.t 17) .skip (.exit 0)) (.seq (.block 1 (.seq (.reg [(.op (some 18)
  none (.mv (.t 16))), (.op (some 19) none (.iad 1 (.t 14) (.t 16))), (.op (some 20) none (.ld (.t 19))), (.op (some 5) none (.mv (.t 18))), (.op (some 6) none (.mv (.t
  20)))]) (.seq (.reg [(.op (some 21) none (.mv (.t 6))), (.op (some 22) none (.bin .gtr (.t 21) (.c (.int .i64 0))))]) (.cond (.t 22) (.reg [(.op (some 23) none (.mv
  (.t 4))), (.op (some 24) none (.mv (.t 4))), (.op (some 25) none (.nck (.t 24))), (.op (some 26) none (.ld (.t 25))), (.op (some 27) none (.mv (.t 6))), (.op (some 28)
  none (.mv (.t 5))), (.op (some 29) none (.mv (.t 5))), (.op (some 30) none (.build [(.int .i64 0), (.int .i64 0), (.int .i64 0), (.pointer none), (.pointer none)] [(0,
  (1, (.t 27))), (1, (1, (.t 28))), (2, (1, (.t 29)))])), (.op (some 31) none (.box 124 (.t 30))), (.op (some 32) none (.bsl 120 1 [(.pointer none)] [(0, (1, (.t
  31)))])), (.op (some 33) none (.app 120 1 8 (.t 26) (.t 32))), (.op (some 34) none (.nck (.t 23))), (.op none none (.st (.t 34) (.t 33)))]) .skip)))) (.reg [(.op (some
  35) none (.bin .add (.t 16) (.c (.int .i64 1)))), (.op (some 16) none (.mv (.t 35)))]))))
def s88_1 (S : Sys) (e : Fe) (H : Heap) (Q : Kx) : Prop := run S (.bin .lss (.c (e 16)) (.c (e 15))) [] H fun t17_42 H => jn (sq (fun e44 H => jn (sq (fun e46 H => run S
  (.bin .add (.c (e46 16)) (.c (.int .i64 1))) [] H fun t35_47 H => Q .normal (upd (upd e46 35 t35_47) 16 t35_47) H) Q) fun Q45 => run S (.iad 1 (.c (e44 14)) (.c (e44
  16))) [] H fun t19_48 H => run S (.ld (.c t19_48)) [] H fun t20_49 H => run S (.bin .gtr (.c t20_49) (.c (.int .i64 0))) [] H fun t22_50 H => jn (blk 1 Q45) fun Q51 =>
  cnd t22_50 (fun Q52 => run S (.nck (.c (e44 4))) [] H fun t25_54 H => run S (.ld (.c t25_54)) [] H fun t26_55 H => run S (.build [(.int .i64 0), (.int .i64 0), (.int
  .i64 0), (.pointer none), (.pointer none)] [(0, (1, (.c t20_49))), (1, (1, (.c (e44 16)))), (2, (1, (.c (e44 16))))]) [] H fun t30_56 H => run S (.box 124 (.c t30_56))
  [] H fun t31_57 H => run S (.bsl 120 1 [(.pointer none)] [(0, (1, (.c t31_57)))]) [] H fun t32_58 H => run S (.app 120 1 8 (.c t26_55) (.c t32_58)) [] H fun t33_59 H
  => run S (.nck (.c (e44 4))) [] H fun t34_60 H => run S (.st (.c t34_60) (.c t33_59)) [] H fun _ H => Q52 .normal (upd (upd (upd (upd (upd (upd (upd (upd (upd (upd
  (upd (upd (upd (upd (upd (upd (upd (upd (upd e44 18 (e44 16)) 19 t19_48) 20 t20_49) 5 (e44 16)) 6 t20_49) 21 t20_49) 22 t22_50) 23 (e44 4)) 24 (e44 4)) 25 t25_54) 26
  t26_55) 27 t20_49) 28 (e44 16)) 29 (e44 16)) 30 t30_56) 31 t31_57) 32 t32_58) 33 t33_59) 34 t34_60) H) (fun Q53 => Q53 .normal (upd (upd (upd (upd (upd (upd (upd e44
  18 (e44 16)) 19 t19_48) 20 t20_49) 5 (e44 16)) 6 t20_49) 21 t20_49) 22 t22_50) H) Q51) Q) fun Q43 => cnd t17_42 (fun Q61 => Q61 .normal (upd e 17 t17_42) H) (fun Q62
  => Q62 (.exit 0) (upd e 17 t17_42) H) Q43
theorem h88_1 (S : Sys) (e : Fe) (H : Heap) (Q : Kx) : wpC S b88_1 e H Q = s88_1 S e H Q := by kernel_rfl
theorem l88_1 (S : Sys) {Q : Kx} (I : Nat → Fe → Heap → Prop) (d : Nat) {e0 : Fe} {H : Heap} (h0 : I d e0 H) (hr : ∀ (d : Nat) (e : Fe) (H : Heap), I d e H → s88_1 S e H
  (sq (fun e' H' => ∃ d', d' < d ∧ I d' e' H') Q)) : WL S b88_1 e0 H Q := WL_inv I d h0 fun d e H hi => (h88_1 S e H _).mpr (hr d e H hi)
theorem u88_1 (S : Sys) {Q : Kx} {e : Fe} {H : Heap} (h : s88_1 S e H (sq (fun e' H' => WL S b88_1 e' H' Q) Q)) : WL S b88_1 e H Q := WL_once ((h88_1 S e H _).mpr h)
def b88_0 : KCode := (.seq (.seq (.reg [(.op (some 39) none (.mv (.t 4))), (.op (some 40) none (.nck (.t 39))), (.op (some 41) none (.ld (.t 40))), (.op (some 42) none
  (.call 119 [(.t 41)])), (.op (some 43) none (.bin .gtr (.t 42) (.c (.int .i64 1))))]) (.cond (.t 43) .skip (.exit 2))) (.seq (.block 3 (.seq (.reg [(.op (some 46) none
  (.mv (.t 4))), (.op (some 47) none (.call 120 [(.t 46)])), (.op (some 48) none (.mv (.t 4))), (.op (some 49) none (.call 120 [(.t 48)])), (.op (some 9) none (.mv (.t
  47))), (.op (some 10) none (.mv (.t 49)))]) (.seq (.reg [(.op (some 50) none (.mv (.t 9))), (.op (some 51) none (.nck (.t 50))), (.op (some 52) none (.fad 0 (.t 51))),
  (.op (some 53) none (.ld (.t 52))), (.op (some 54) none (.mv (.t 10))), (.op (some 55) none (.nck (.t 54))), (.op (some 56) none (.fad 0 (.t 55))), (.op (some 57) none
  (.ld (.t 56))), (.op (some 58) none (.bin .add (.t 53) (.t 57))), (.op (some 59) none (.mv (.t 8))), (.op (some 60) none (.mv (.t 9))), (.op (some 61) none (.mv (.t
  10))), (.op (some 62) none (.build [(.int .i64 0), (.int .i64 0), (.int .i64 0), (.pointer none), (.pointer none)] [(0, (1, (.t 58))), (1, (1, (.t 59))), (2, (1, (.c
  (.int .i64 (-1))))), (3, (1, (.t 60))), (4, (1, (.t 61)))])), (.op (some 63) none (.box 124 (.t 62))), (.op (some 11) none (.mv (.t 63)))]) (.seq (.reg [(.op (some 64)
  none (.mv (.t 7))), (.op (some 65) none (.mv (.t 11))), (.op (some 66) none (.nck (.t 65))), (.op (some 67) none (.fad 0 (.t 66))), (.op (some 68) none (.ld (.t 67))),
  (.op (some 69) none (.bin .add (.t 64) (.t 68))), (.op (some 7) none (.mv (.t 69)))]) (.reg [(.op (some 70) none (.mv (.t 4))), (.op (some 71) none (.mki 157 (.t
  70))), (.op (some 72) none (.mv (.t 11))), (.op (some 73) none (.mki 120 (.t 72))), (.op (some 74) none (.call 114 [(.t 71), (.t 73)]))]))))) (.reg [(.op (some 44)
  none (.mv (.t 8))), (.op (some 45) none (.bin .add (.t 44) (.c (.int .i64 1)))), (.op (some 8) none (.mv (.t 45)))])))
def s88_0 (S : Sys) (e : Fe) (H : Heap) (Q : Kx) : Prop := run S (.nck (.c (e 4))) [] H fun t40_13 H => run S (.ld (.c t40_13)) [] H fun t41_14 H => run S (.call 119
  [(.c t41_14)]) [] H fun t42_15 H => run S (.bin .gtr (.c t42_15) (.c (.int .i64 1))) [] H fun t43_16 H => jn (sq (fun e18 H => jn (sq (fun e20 H => run S (.bin .add
  (.c (e20 8)) (.c (.int .i64 1))) [] H fun t45_21 H => Q .normal (upd (upd (upd e20 44 (e20 8)) 45 t45_21) 8 t45_21) H) Q) fun Q19 => run S (.call 120 [(.c (e18 4))])
  [] H fun t47_22 H => run S (.call 120 [(.c (e18 4))]) [] H fun t49_23 H => run S (.nck (.c t47_22)) [] H fun t51_24 H => run S (.fad 0 (.c t51_24)) [] H fun t52_25 H
  => run S (.ld (.c t52_25)) [] H fun t53_26 H => run S (.nck (.c t49_23)) [] H fun t55_27 H => run S (.fad 0 (.c t55_27)) [] H fun t56_28 H => run S (.ld (.c t56_28))
  [] H fun t57_29 H => run S (.bin .add (.c t53_26) (.c t57_29)) [] H fun t58_30 H => run S (.build [(.int .i64 0), (.int .i64 0), (.int .i64 0), (.pointer none),
  (.pointer none)] [(0, (1, (.c t58_30))), (1, (1, (.c (e18 8)))), (2, (1, (.c (.int .i64 (-1))))), (3, (1, (.c t47_22))), (4, (1, (.c t49_23)))]) [] H fun t62_31 H =>
  run S (.box 124 (.c t62_31)) [] H fun t63_32 H => run S (.nck (.c t63_32)) [] H fun t66_33 H => run S (.fad 0 (.c t66_33)) [] H fun t67_34 H => run S (.ld (.c t67_34))
  [] H fun t68_35 H => run S (.bin .add (.c (e18 7)) (.c t68_35)) [] H fun t69_36 H => run S (.mki 157 (.c (e18 4))) [] H fun t71_37 H => run S (.mki 120 (.c t63_32)) []
  H fun t73_38 H => run S (.call 114 [(.c t71_37), (.c t73_38)]) [] H fun t74_39 H => Q19 .normal (upd (upd (upd (upd (upd (upd (upd (upd (upd (upd (upd (upd (upd (upd
  (upd (upd (upd (upd (upd (upd (upd (upd (upd (upd (upd (upd (upd (upd (upd (upd (upd (upd (upd e18 46 (e18 4)) 47 t47_22) 48 (e18 4)) 49 t49_23) 9 t47_22) 10 t49_23)
  50 t47_22) 51 t51_24) 52 t52_25) 53 t53_26) 54 t49_23) 55 t55_27) 56 t56_28) 57 t57_29) 58 t58_30) 59 (e18 8)) 60 t47_22) 61 t49_23) 62 t62_31) 63 t63_32) 11 t63_32)
  64 (e18 7)) 65 t63_32) 66 t66_33) 67 t67_34) 68 t68_35) 69 t69_36) 7 t69_36) 70 (e18 4)) 71 t71_37) 72 t63_32) 73 t73_38) 74 t74_39) H) Q) fun Q17 => cnd t43_16 (fun
  Q40 => Q40 .normal (upd (upd (upd (upd (upd e 39 (e 4)) 40 t40_13) 41 t41_14) 42 t42_15) 43 t43_16) H) (fun Q41 => Q41 (.exit 2) (upd (upd (upd (upd (upd e 39 (e 4))
  40 t40_13) 41 t41_14) 42 t42_15) 43 t43_16) H) Q17
theorem h88_0 (S : Sys) (e : Fe) (H : Heap) (Q : Kx) : wpC S b88_0 e H Q = s88_0 S e H Q := by kernel_rfl
theorem l88_0 (S : Sys) {Q : Kx} (I : Nat → Fe → Heap → Prop) (d : Nat) {e0 : Fe} {H : Heap} (h0 : I d e0 H) (hr : ∀ (d : Nat) (e : Fe) (H : Heap), I d e H → s88_0 S e H
  (sq (fun e' H' => ∃ d', d' < d ∧ I d' e' H') Q)) : WL S b88_0 e0 H Q := WL_inv I d h0 fun d e H hi => (h88_0 S e H _).mpr (hr d e H hi)
theorem u88_0 (S : Sys) {Q : Kx} {e : Fe} {H : Heap} (h : s88_0 S e H (sq (fun e' H' => WL S b88_0 e' H' Q) Q)) : WL S b88_0 e H Q := WL_once ((h88_0 S e H _).mpr h)
def s88 (S : Sys) (a0 : Value) (H : Heap) (R : Kv) : Prop := run S (.bsl 120 0 [] []) [] H fun t12_1 H => run S (.box 159 (.c t12_1)) [] H fun t13_2 H => run S (.lenL
  (.c a0)) [] H fun t15_3 H => jn (sq (fun e5 H => run S (.mki 157 (.c (e5 4))) [] H fun t37_6 H => run S (.call 111 [(.c t37_6)]) [] H fun t38_7 H => jn (sq (fun e9 H
  => run S (.call 120 [(.c (e9 4))]) [] H fun t76_10 H => R (tup [t76_10, (e9 7)]) H) (fn [(.t 2), (.t 3)] R)) fun Q8 => jn (blk 2 Q8) fun Q11 => WL S b88_0 (upd (upd
  (upd (upd (upd e5 36 (e5 4)) 37 t37_6) 38 t38_7) 7 (.int .i64 0)) 8 (.int .i64 256)) H Q11) (fn [(.t 2), (.t 3)] R)) fun Q4 => jn (blk 0 Q4) fun Q12 => WL S b88_1 (upd
  (upd (upd (upd (upd (upd (upd (upd (Env.get [a0]) 2 (.pointer none)) 3 (.int .i64 0)) 12 t12_1) 13 t13_2) 4 t13_2) 14 a0) 15 t15_3) 16 (.int .i64 0)) H Q12
theorem h88 (S : Sys) (a0 : Value) (H : Heap) (R : Kv) : wpC S k88.body (Env.get [a0]) H (fn [(.t 2), (.t 3)] R) = s88 S a0 H R := by kernel_rfl
theorem w88 {S : Sys} (hR : S.R 88 = none) (hF : S.F 88 = some k88) (a0 : Value) {H : Heap} {R : Kv} (h : s88 S a0 H R) : Wf S 88 [a0] H R := Wf_sh hR hF ((h88 S a0 H
  R).mpr h)
def s89 (S : Sys) (a0 a1 a2 : Value) (H : Heap) (R : Kv) : Prop := run S (.nck (.c a0)) [] H fun t7_1 H => run S (.fad 2 (.c t7_1)) [] H fun t8_2 H => run S (.ld (.c
  t8_2)) [] H fun t9_3 H => run S (.bin .geq (.c t9_3) (.c (.int .i64 0))) [] H fun t10_4 H => jn (sq (fun e6 H => run S (.nck (.c (e6 0))) [] H fun t19_7 H => run S
  (.fad 3 (.c t19_7)) [] H fun t20_8 H => run S (.ld (.c t20_8)) [] H fun t21_9 H => run S (.bin .add (.c (e6 1)) (.c (.int .i64 1))) [] H fun t23_10 H => run S (.call
  89 [(.c t21_9), (.c t23_10), (.c (e6 2))]) [] H fun t25_11 H => run S (.nck (.c (e6 0))) [] H fun t27_12 H => run S (.fad 4 (.c t27_12)) [] H fun t28_13 H => run S
  (.ld (.c t28_13)) [] H fun t29_14 H => run S (.bin .add (.c (e6 1)) (.c (.int .i64 1))) [] H fun t31_15 H => run S (.call 89 [(.c t29_14), (.c t31_15), (.c (e6 2))])
  [] H fun t33_16 H => R (tup []) H) (fn [] R)) fun Q5 => cnd t10_4 (fun Q17 => run S (.nck (.c a0)) [] H fun t13_19 H => run S (.fad 2 (.c t13_19)) [] H fun t14_20 H =>
  run S (.ld (.c t14_20)) [] H fun t15_21 H => run S (.callv (.c a2) [(.c t15_21), (.c a1)]) [] H fun t17_22 H => Q17 .ret (upd (upd (upd (upd (upd (upd (upd (upd (upd
  (upd (upd (upd (Env.get [a0, a1, a2]) 6 a0) 7 t7_1) 8 t8_2) 9 t9_3) 10 t10_4) 11 a2) 12 a0) 13 t13_19) 14 t14_20) 15 t15_21) 16 a1) 17 t17_22) H) (fun Q18 => Q18
  .normal (upd (upd (upd (upd (upd (Env.get [a0, a1, a2]) 6 a0) 7 t7_1) 8 t8_2) 9 t9_3) 10 t10_4) H) Q5
theorem h89 (S : Sys) (a0 a1 a2 : Value) (H : Heap) (R : Kv) : wpC S k89.body (Env.get [a0, a1, a2]) H (fn [] R) = s89 S a0 a1 a2 H R := by kernel_rfl
theorem w89 {S : Sys} (hR : S.R 89 = none) (hF : S.F 89 = some k89) (a0 a1 a2 : Value) {H : Heap} {R : Kv} (h : s89 S a0 a1 a2 H R) : Wf S 89 [a0, a1, a2] H R := Wf_sh
  hR hF ((h89 S a0 a1 a2 H R).mpr h)
def s90 (S : Sys) (a0 a1 a2 a3 : Value) (H : Heap) (R : Kv) : Prop := run S (.ld (.c a2)) [] H fun t6_1 H => run S (.iad 1 (.c t6_1) (.c a0)) [] H fun t9_2 H => run S
  (.st (.c t9_2) (.c a1)) [] H fun _ H => run S (.ld (.c a3)) [] H fun t10_3 H => run S (.mx (.c t10_3) [(.c a1)]) [] H fun t12_4 H => run S (.st (.c a3) (.c t12_4)) []
  H fun _ H => R (tup []) H
theorem h90 (S : Sys) (a0 a1 a2 a3 : Value) (H : Heap) (R : Kv) : wpC S k90.body (Env.get [a0, a1, a2, a3]) H (fn [] R) = s90 S a0 a1 a2 a3 H R := by kernel_rfl
theorem w90 {S : Sys} (hR : S.R 90 = none) (hF : S.F 90 = some k90) (a0 a1 a2 a3 : Value) {H : Heap} {R : Kv} (h : s90 S a0 a1 a2 a3 H R) : Wf S 90 [a0, a1, a2, a3] H R
  := Wf_sh hR hF ((h90 S a0 a1 a2 a3 H R).mpr h)
def b91_1 : KCode := (.seq (.reg [(.op (some 17) none (.bin .lss (.t 16) (.t 15)))]) (.seq (.cond (.t 17) .skip (.exit 0)) (.seq (.block 1 (.seq (.reg [(.op (some 18)
  none (.mv (.t 16))), (.op (some 19) none (.iad 1 (.t 14) (.t 16))), (.op (some 20) none (.ld (.t 19))), (.op (some 5) none (.mv (.t 18))), (.op (some 6) none (.mv (.t
  20)))]) (.seq (.reg [(.op (some 21) none (.mv (.t 6))), (.op (some 22) none (.bin .gtr (.t 21) (.c (.int .i64 0))))]) (.cond (.t 22) (.reg [(.op (some 23) none (.mv
  (.t 4))), (.op (some 24) none (.mv (.t 5))), (.op (some 25) none (.bsl 3 1 [(.int .i64 0)] [(0, (1, (.t 24)))])), (.op (some 26) none (.app 3 1 8 (.t 23) (.t 25))),
  (.op (some 4) none (.mv (.t 26)))]) .skip)))) (.reg [(.op (some 27) none (.bin .add (.t 16) (.c (.int .i64 1)))), (.op (some 16) none (.mv (.t 27)))]))))
def s91_1 (S : Sys) (e : Fe) (H : Heap) (Q : Kx) : Prop := run S (.bin .lss (.c (e 16)) (.c (e 15))) [] H fun t17_40 H => jn (sq (fun e42 H => jn (sq (fun e44 H => run S
  (.bin .add (.c (e44 16)) (.c (.int .i64 1))) [] H fun t27_45 H => Q .normal (upd (upd e44 27 t27_45) 16 t27_45) H) Q) fun Q43 => run S (.iad 1 (.c (e42 14)) (.c (e42
  16))) [] H fun t19_46 H => run S (.ld (.c t19_46)) [] H fun t20_47 H => run S (.bin .gtr (.c t20_47) (.c (.int .i64 0))) [] H fun t22_48 H => jn (blk 1 Q43) fun Q49 =>
  cnd t22_48 (fun Q50 => run S (.bsl 3 1 [(.int .i64 0)] [(0, (1, (.c (e42 16))))]) [] H fun t25_52 H => run S (.app 3 1 8 (.c (e42 4)) (.c t25_52)) [] H fun t26_53 H =>
  Q50 .normal (upd (upd (upd (upd (upd (upd (upd (upd (upd (upd (upd (upd e42 18 (e42 16)) 19 t19_46) 20 t20_47) 5 (e42 16)) 6 t20_47) 21 t20_47) 22 t22_48) 23 (e42 4))
  24 (e42 16)) 25 t25_52) 26 t26_53) 4 t26_53) H) (fun Q51 => Q51 .normal (upd (upd (upd (upd (upd (upd (upd e42 18 (e42 16)) 19 t19_46) 20 t20_47) 5 (e42 16)) 6 t20_47)
  21 t20_47) 22 t22_48) H) Q49) Q) fun Q41 => cnd t17_40 (fun Q54 => Q54 .normal (upd e 17 t17_40) H) (fun Q55 => Q55 (.exit 0) (upd e 17 t17_40) H) Q41
theorem h91_1 (S : Sys) (e : Fe) (H : Heap) (Q : Kx) : wpC S b91_1 e H Q = s91_1 S e H Q := by kernel_rfl
theorem l91_1 (S : Sys) {Q : Kx} (I : Nat → Fe → Heap → Prop) (d : Nat) {e0 : Fe} {H : Heap} (h0 : I d e0 H) (hr : ∀ (d : Nat) (e : Fe) (H : Heap), I d e H → s91_1 S e H
  (sq (fun e' H' => ∃ d', d' < d ∧ I d' e' H') Q)) : WL S b91_1 e0 H Q := WL_inv I d h0 fun d e H hi => (h91_1 S e H _).mpr (hr d e H hi)
theorem u91_1 (S : Sys) {Q : Kx} {e : Fe} {H : Heap} (h : s91_1 S e H (sq (fun e' H' => WL S b91_1 e' H' Q) Q)) : WL S b91_1 e H Q := WL_once ((h91_1 S e H _).mpr h)
def b91_0 : KCode := (.seq (.reg [(.op (some 44) none (.bin .lss (.t 43) (.t 42)))]) (.seq (.cond (.t 44) .skip (.exit 2)) (.seq (.block 3 (.seq (.reg [(.op (some 45)
  none (.mv (.t 43))), (.op (some 46) none (.iad 1 (.t 41) (.t 43))), (.op (some 47) none (.ld (.t 46))), (.op (some 9) none (.mv (.t 45))), (.op (some 10) none (.mv (.t
  47)))]) (.seq (.reg [(.op (some 48) none (.mv (.t 3))), (.op (some 49) none (.mv (.t 10))), (.op (some 50) none (.mv (.t 7))), (.op (some 51) none (.iad 1 (.t 48) (.t
  49))), (.op none none (.st (.t 51) (.t 50)))]) (.seq (.reg [(.op (some 52) none (.mv (.t 9))), (.op (some 53) none (.mv (.t 8))), (.op (some 54) none (.bin .lss (.t
  52) (.t 53)))]) (.cond (.t 54) (.reg [(.op (some 55) none (.mv (.t 3))), (.op (some 56) none (.mv (.t 10))), (.op (some 57) none (.mv (.t 7))), (.op (some 58) none
  (.bin .sub (.t 57) (.c (.int .i64 1)))), (.op (some 59) none (.iad 1 (.t 55) (.t 56))), (.op none none (.st (.t 59) (.t 58)))]) .skip))))) (.reg [(.op (some 60) none
  (.bin .add (.t 43) (.c (.int .i64 1)))), (.op (some 43) none (.mv (.t 60)))]))))
def s91_0 (S : Sys) (e : Fe) (H : Heap) (Q : Kx) : Prop := run S (.bin .lss (.c (e 43)) (.c (e 42))) [] H fun t44_23 H => jn (sq (fun e25 H => jn (sq (fun e27 H => run S
  (.bin .add (.c (e27 43)) (.c (.int .i64 1))) [] H fun t60_28 H => Q .normal (upd (upd e27 60 t60_28) 43 t60_28) H) Q) fun Q26 => run S (.iad 1 (.c (e25 41)) (.c (e25
  43))) [] H fun t46_29 H => run S (.ld (.c t46_29)) [] H fun t47_30 H => run S (.iad 1 (.c (e25 3)) (.c t47_30)) [] H fun t51_31 H => run S (.st (.c t51_31) (.c (e25
  7))) [] H fun _ H => run S (.bin .lss (.c (e25 43)) (.c (e25 8))) [] H fun t54_32 H => jn (blk 3 Q26) fun Q33 => cnd t54_32 (fun Q34 => run S (.bin .sub (.c (e25 7))
  (.c (.int .i64 1))) [] H fun t58_36 H => run S (.iad 1 (.c (e25 3)) (.c t47_30)) [] H fun t59_37 H => run S (.st (.c t59_37) (.c t58_36)) [] H fun _ H => Q34 .normal
  (upd (upd (upd (upd (upd (upd (upd (upd (upd (upd (upd (upd (upd (upd (upd (upd (upd e25 45 (e25 43)) 46 t46_29) 47 t47_30) 9 (e25 43)) 10 t47_30) 48 (e25 3)) 49
  t47_30) 50 (e25 7)) 51 t51_31) 52 (e25 43)) 53 (e25 8)) 54 t54_32) 55 (e25 3)) 56 t47_30) 57 (e25 7)) 58 t58_36) 59 t59_37) H) (fun Q35 => Q35 .normal (upd (upd (upd
  (upd (upd (upd (upd (upd (upd (upd (upd (upd e25 45 (e25 43)) 46 t46_29) 47 t47_30) 9 (e25 43)) 10 t47_30) 48 (e25 3)) 49 t47_30) 50 (e25 7)) 51 t51_31) 52 (e25 43))
  53 (e25 8)) 54 t54_32) H) Q33) Q) fun Q24 => cnd t44_23 (fun Q38 => Q38 .normal (upd e 44 t44_23) H) (fun Q39 => Q39 (.exit 2) (upd e 44 t44_23) H) Q24
theorem h91_0 (S : Sys) (e : Fe) (H : Heap) (Q : Kx) : wpC S b91_0 e H Q = s91_0 S e H Q := by kernel_rfl
theorem l91_0 (S : Sys) {Q : Kx} (I : Nat → Fe → Heap → Prop) (d : Nat) {e0 : Fe} {H : Heap} (h0 : I d e0 H) (hr : ∀ (d : Nat) (e : Fe) (H : Heap), I d e H → s91_0 S e H
  (sq (fun e' H' => ∃ d', d' < d ∧ I d' e' H') Q)) : WL S b91_0 e0 H Q := WL_inv I d h0 fun d e H hi => (h91_0 S e H _).mpr (hr d e H hi)
theorem u91_0 (S : Sys) {Q : Kx} {e : Fe} {H : Heap} (h : s91_0 S e H (sq (fun e' H' => WL S b91_0 e' H' Q) Q)) : WL S b91_0 e H Q := WL_once ((h91_0 S e H _).mpr h)
def s91 (S : Sys) (a0 : Value) (H : Heap) (R : Kv) : Prop := run S (.box 38 (.c a0)) [] H fun t1_1 H => run S (.ld (.c t1_1)) [] H fun t11_2 H => run S (.lenL (.c
  t11_2)) [] H fun t12_3 H => run S (.mks 3 [(.int .i64 0)] 8 (.c t12_3) (.c t12_3)) [] H fun t13_4 H => run S (.ld (.c t1_1)) [] H fun t14_5 H => run S (.lenL (.c
  t14_5)) [] H fun t15_6 H => jn (sq (fun e8 H => run S (.lenL (.c (e8 4))) [] H fun t29_9 H => run S (.bin .sub (.c t29_9) (.c (.int .i64 1))) [] H fun t30_10 H => run
  S (.cvt .u32 (.c t30_10)) [] H fun t31_11 H => run S (.call 121 [(.c t31_11)]) [] H fun t32_12 H => run S (.mkf (.func 123) [] [(.c (e8 1))]) [] H fun t34_13 H => run
  S (.call 122 [(.c (e8 4)), (.c t34_13)]) [] H fun t35_14 H => run S (.bin .shl (.c (.int .i64 1)) (.c t32_12)) [] H fun t37_15 H => run S (.lenL (.c (e8 4))) [] H fun
  t39_16 H => run S (.bin .sub (.c t37_15) (.c t39_16)) [] H fun t40_17 H => run S (.lenL (.c (e8 4))) [] H fun t42_18 H => jn (sq (fun e20 H => R (e20 3) H) (fn [(.t
  2)] R)) fun Q19 => jn (blk 2 Q19) fun Q21 => WL S b91_0 (upd (upd (upd (upd (upd (upd (upd (upd (upd (upd (upd (upd (upd (upd (upd (upd (upd (upd e8 28 (e8 4)) 29
  t29_9) 30 t30_10) 31 t31_11) 32 t32_12) 7 t32_12) 33 (e8 4)) 34 t34_13) 35 t35_14) 36 t32_12) 37 t37_15) 38 (e8 4)) 39 t39_16) 40 t40_17) 8 t40_17) 41 (e8 4)) 42
  t42_18) 43 (.int .i64 0)) H Q21) (fn [(.t 2)] R)) fun Q7 => jn (blk 0 Q7) fun Q22 => WL S b91_1 (upd (upd (upd (upd (upd (upd (upd (upd (upd (upd (Env.get [a0]) 1
  t1_1) 2 (.slice none 0 0)) 11 t11_2) 12 t12_3) 13 t13_4) 3 t13_4) 4 (.slice none 0 0)) 14 t14_5) 15 t15_6) 16 (.int .i64 0)) H Q22
theorem h91 (S : Sys) (a0 : Value) (H : Heap) (R : Kv) : wpC S k91.body (Env.get [a0]) H (fn [(.t 2)] R) = s91 S a0 H R := by kernel_rfl
theorem w91 {S : Sys} (hR : S.R 91 = none) (hF : S.F 91 = some k91) (a0 : Value) {H : Heap} {R : Kv} (h : s91 S a0 H R) : Wf S 91 [a0] H R := Wf_sh hR hF ((h91 S a0 H
  R).mpr h)
def b92_0 : KCode := (.seq (.reg [(.op (some 8) none (.bin .lss (.t 7) (.t 6)))]) (.seq (.cond (.t 8) .skip (.exit 0)) (.seq (.block 1 (.seq (.reg [(.op (some 9) none
  (.iad 1 (.t 5) (.t 7))), (.op (some 10) none (.ld (.t 9))), (.op (some 4) none (.mv (.t 10)))]) (.seq (.reg [(.op (some 11) none (.mv (.t 4))), (.op (some 12) none
  (.bin .lss (.t 11) (.c (.int .i64 0)))), (.op (some 13) none (.mv (.t 12))), (.op (some 14) (some (13, false)) (.mv (.t 4))), (.op (some 15) (some (13, false)) (.bin
  .gtr (.t 14) (.c (.int .i64 11)))), (.op (some 16) none (.pick (.t 13) (.c (.bool true)) (.t 15)))]) (.cond (.t 16) (.seq (.reg [(.op (some 2) none (.mv (.c (.bool
  false))))]) .ret) .skip)))) (.reg [(.op (some 17) none (.bin .add (.t 7) (.c (.int .i64 1)))), (.op (some 7) none (.mv (.t 17)))]))))
def s92_0 (S : Sys) (e : Fe) (H : Heap) (Q : Kx) : Prop := run S (.bin .lss (.c (e 7)) (.c (e 6))) [] H fun t8_7 H => jn (sq (fun e9 H => jn (sq (fun e11 H => run S
  (.bin .add (.c (e11 7)) (.c (.int .i64 1))) [] H fun t17_12 H => Q .normal (upd (upd e11 17 t17_12) 7 t17_12) H) Q) fun Q10 => run S (.iad 1 (.c (e9 5)) (.c (e9 7)))
  [] H fun t9_13 H => run S (.ld (.c t9_13)) [] H fun t10_14 H => run S (.bin .lss (.c t10_14) (.c (.int .i64 0))) [] H fun t12_15 H => gd t12_15 false (run S (.mv (.c
  t10_14)) [] H) H fun t14_16 H => gd t12_15 false (run S (.bin .gtr (.c t14_16) (.c (.int .i64 11))) [] H) H fun t15_17 H => run S (.pick (.c t12_15) (.c (.bool true))
  (.c t15_17)) [] H fun t16_18 H => jn (blk 1 Q10) fun Q19 => cnd t16_18 (fun Q20 => Q20 .ret (upd (upd (upd (upd (upd (upd (upd (upd (upd (upd e9 9 t9_13) 10 t10_14) 4
  t10_14) 11 t10_14) 12 t12_15) 13 t12_15) 14 t14_16) 15 t15_17) 16 t16_18) 2 (.bool false)) H) (fun Q21 => Q21 .normal (upd (upd (upd (upd (upd (upd (upd (upd (upd e9 9
  t9_13) 10 t10_14) 4 t10_14) 11 t10_14) 12 t12_15) 13 t12_15) 14 t14_16) 15 t15_17) 16 t16_18) H) Q19) Q) fun Q8 => cnd t8_7 (fun Q22 => Q22 .normal (upd e 8 t8_7) H)
  (fun Q23 => Q23 (.exit 0) (upd e 8 t8_7) H) Q8
theorem h92_0 (S : Sys) (e : Fe) (H : Heap) (Q : Kx) : wpC S b92_0 e H Q = s92_0 S e H Q := by kernel_rfl
theorem l92_0 (S : Sys) {Q : Kx} (I : Nat → Fe → Heap → Prop) (d : Nat) {e0 : Fe} {H : Heap} (h0 : I d e0 H) (hr : ∀ (d : Nat) (e : Fe) (H : Heap), I d e H → s92_0 S e H
  (sq (fun e' H' => ∃ d', d' < d ∧ I d' e' H') Q)) : WL S b92_0 e0 H Q := WL_inv I d h0 fun d e H hi => (h92_0 S e H _).mpr (hr d e H hi)
theorem u92_0 (S : Sys) {Q : Kx} {e : Fe} {H : Heap} (h : s92_0 S e H (sq (fun e' H' => WL S b92_0 e' H' Q) Q)) : WL S b92_0 e H Q := WL_once ((h92_0 S e H _).mpr h)
def s92 (S : Sys) (a0 : Value) (H : Heap) (R : Kv) : Prop := run S (.lenL (.c a0)) [] H fun t6_1 H => jn (sq (fun e3 H => run S (.lenL (.c (e3 0))) [] H fun t19_4 H =>
  run S (.bin .leq (.c t19_4) (.c (.int .i64 256))) [] H fun t20_5 H => R t20_5 H) (fn [(.t 2)] R)) fun Q2 => jn (blk 0 Q2) fun Q6 => WL S b92_0 (upd (upd (upd (upd
  (Env.get [a0]) 2 (.bool false)) 5 a0) 6 t6_1) 7 (.int .i64 0)) H Q6
theorem h92 (S : Sys) (a0 : Value) (H : Heap) (R : Kv) : wpC S k92.body (Env.get [a0]) H (fn [(.t 2)] R) = s92 S a0 H R := by kernel_rfl
theorem w92 {S : Sys} (hR : S.R 92 = none) (hF : S.F 92 = some k92) (a0 : Value) {H : Heap} {R : Kv} (h : s92 S a0 H R) : Wf S 92 [a0] H R := Wf_sh hR hF ((h92 S a0 H
  R).mpr h)
def b93_0 : KCode := (.seq (.seq (.reg [(.op (some 4) none (.mv (.t 0))), (.op (some 5) none (.bin .gtr (.t 4) (.c (.int .u32 0))))]) (.cond (.t 5) .skip (.exit 0)))
  (.block 1 (.seq (.reg [(.op (some 6) none (.mv (.t 0))), (.op (some 7) none (.bin .quo (.t 6) (.c (.int .u32 2)))), (.op (some 0) none (.mv (.t 7)))]) (.reg [(.op
  (some 8) none (.mv (.t 3))), (.op (some 9) none (.bin .add (.t 8) (.c (.int .i64 1)))), (.op (some 3) none (.mv (.t 9)))]))))
def s93_0 (S : Sys) (e : Fe) (H : Heap) (Q : Kx) : Prop := run S (.bin .gtr (.c (e 0)) (.c (.int .u32 0))) [] H fun t5_4 H => jn (sq (fun e6 H => run S (.bin .quo (.c
  (e6 0)) (.c (.int .u32 2))) [] H fun t7_7 H => run S (.bin .add (.c (e6 3)) (.c (.int .i64 1))) [] H fun t9_8 H => Q .normal (upd (upd (upd (upd (upd (upd e6 6 (e6 0))
  7 t7_7) 0 t7_7) 8 (e6 3)) 9 t9_8) 3 t9_8) H) Q) fun Q5 => cnd t5_4 (fun Q9 => Q9 .normal (upd (upd e 4 (e 0)) 5 t5_4) H) (fun Q10 => Q10 (.exit 0) (upd (upd e 4 (e 0))
  5 t5_4) H) Q5
theorem h93_0 (S : Sys) (e : Fe) (H : Heap) (Q : Kx) : wpC S b93_0 e H Q = s93_0 S e H Q := by kernel_rfl
theorem l93_0 (S : Sys) {Q : Kx} (I : Nat → Fe → Heap → Prop) (d : Nat) {e0 : Fe} {H : Heap} (h0 : I d e0 H) (hr : ∀ (d : Nat) (e : Fe) (H : Heap), I d e H → s93_0 S e H
  (sq (fun e' H' => ∃ d', d' < d ∧ I d' e' H') Q)) : WL S b93_0 e0 H Q := WL_inv I d h0 fun d e H hi => (h93_0 S e H _).mpr (hr d e H hi)
theorem u93_0 (S : Sys) {Q : Kx} {e : Fe} {H : Heap} (h : s93_0 S e H (sq (fun e' H' => WL S b93_0 e' H' Q) Q)) : WL S b93_0 e H Q := WL_once ((h93_0 S e H _).mpr h)
def s93 (S : Sys) (a0 : Value) (H : Heap) (R : Kv) : Prop := jn (sq (fun e2 H => R (e2 3) H) (fn [(.t 2)] R)) fun Q1 => jn (blk 0 Q1) fun Q3 => WL S b93_0 (upd (upd
  (Env.get [a0]) 2 (.int .i64 0)) 3 (.int .i64 0)) H Q3
theorem h93 (S : Sys) (a0 : Value) (H : Heap) (R : Kv) : wpC S k93.body (Env.get [a0]) H (fn [(.t 2)] R) = s93 S a0 H R := by kernel_rfl
theorem w93 {S : Sys} (hR : S.R 93 = none) (hF : S.F 93 = some k93) (a0 : Value) {H : Heap} {R : Kv} (h : s93 S a0 H R) : Wf S 93 [a0] H R := Wf_sh hR hF ((h93 S a0 H
  R).mpr h)
def b99_0 : KCode := (.seq (.reg [(.op (some 15) none (.bin .lss (.t 14) (.t 13)))]) (.seq (.cond (.t 15) .skip (.exit 0)) (.seq (.block 1 (.seq (.reg [(.op (some 16)
  none (.mv (.t 14))), (.op (some 17) none (.iad 1 (.t 12) (.t 14))), (.op (some 18) none (.ld (.t 17))), (.op (some 6) none (.mv (.t 16))), (.op (some 7) none (.mv (.t
  18)))]) (.reg [(.op (some 19) none (.mv (.t 5))), (.op (some 20) none (.mv (.t 7))), (.op (some 21) none (.cvt .u64 (.t 20))), (.op (some 22) none (.mv (.t 6))), (.op
  (some 23) none (.bin .mul (.c (.int .i64 8)) (.t 22))), (.op (some 24) none (.bin .shl (.t 21) (.t 23))), (.op (some 25) none (.bin .or (.t 19) (.t 24))), (.op (some
  5) none (.mv (.t 25)))]))) (.reg [(.op (some 26) none (.bin .add (.t 14) (.c (.int .i64 1)))), (.op (some 14) none (.mv (.t 26)))]))))
def s99_0 (S : Sys) (e : Fe) (H : Heap) (Q : Kx) : Prop := run S (.bin .lss (.c (e 14)) (.c (e 13))) [] H fun t15_8 H => jn (sq (fun e10 H => jn (sq (fun e12 H => run S
  (.bin .add (.c (e12 14)) (.c (.int .i64 1))) [] H fun t26_13 H => Q .normal (upd (upd e12 26 t26_13) 14 t26_13) H) Q) fun Q11 => run S (.iad 1 (.c (e10 12)) (.c (e10
  14))) [] H fun t17_14 H => run S (.ld (.c t17_14)) [] H fun t18_15 H => run S (.cvt .u64 (.c t18_15)) [] H fun t21_16 H => run S (.bin .mul (.c (.int .i64 8)) (.c (e10
  14))) [] H fun t23_17 H => run S (.bin .shl (.c t21_16) (.c t23_17)) [] H fun t24_18 H => run S (.bin .or (.c (e10 5)) (.c t24_18)) [] H fun t25_19 H => Q11 .normal
  (upd (upd (upd (upd (upd (upd (upd (upd (upd (upd (upd (upd (upd e10 16 (e10 14)) 17 t17_14) 18 t18_15) 6 (e10 14)) 7 t18_15) 19 (e10 5)) 20 t18_15) 21 t21_16) 22 (e10
  14)) 23 t23_17) 24 t24_18) 25 t25_19) 5 t25_19) H) Q) fun Q9 => cnd t15_8 (fun Q20 => Q20 .normal (upd e 15 t15_8) H) (fun Q21 => Q21 (.exit 0) (upd e 15 t15_8) H) Q9
theorem h99_0 (S : Sys) (e : Fe) (H : Heap) (Q : Kx) : wpC S b99_0 e H Q = s99_0 S e H Q := by kernel_rfl
theorem l99_0 (S : Sys) {Q : Kx} (I : Nat → Fe → Heap → Prop) (d : Nat) {e0 : Fe} {H : Heap} (h0 : I d e0 H) (hr : ∀ (d : Nat) (e : Fe) (H : Heap), I d e H → s99_0 S e H
  (sq (fun e' H' => ∃ d', d' < d ∧ I d' e' H') Q)) : WL S b99_0 e0 H Q := WL_inv I d h0 fun d e H hi => (h99_0 S e H _).mpr (hr d e H hi)
theorem u99_0 (S : Sys) {Q : Kx} {e : Fe} {H : Heap} (h : s99_0 S e H (sq (fun e' H' => WL S b99_0 e' H' Q) Q)) : WL S b99_0 e H Q := WL_once ((h99_0 S e H _).mpr h)
def s99 (S : Sys) (a0 a1 : Value) (H : Heap) (R : Kv) : Prop := run S (.call 105 [(.c a1)]) [] H fun t10_1 H => run S (.call 102 [(.c a0), (.c t10_1)]) [] H fun t11_2 H
  => run S (.s2b 5 (.c t11_2)) [] H fun t12_3 H => run S (.lenL (.c t12_3)) [] H fun t13_4 H => jn (sq (fun e6 H => R (e6 5) H) (fn [(.t 4)] R)) fun Q5 => jn (blk 0 Q5)
  fun Q7 => WL S b99_0 (upd (upd (upd (upd (upd (upd (upd (upd (upd (Env.get [a0, a1]) 4 (.int .u64 0)) 5 (.int .u64 0)) 8 a0) 9 a1) 10 t10_1) 11 t11_2) 12 t12_3) 13
  t13_4) 14 (.int .i64 0)) H Q7
theorem h99 (S : Sys) (a0 a1 : Value) (H : Heap) (R : Kv) : wpC S k99.body (Env.get [a0, a1]) H (fn [(.t 4)] R) = s99 S a0 a1 H R := by kernel_rfl
theorem w99 {S : Sys} (hR : S.R 99 = none) (hF : S.F 99 = some k99) (a0 a1 : Value) {H : Heap} {R : Kv} (h : s99 S a0 a1 H R) : Wf S 99 [a0, a1] H R := Wf_sh hR hF ((h99
  S a0 a1 H R).mpr h)
def s101 (S : Sys) (a0 : Value) (H : Heap) (R : Kv) : Prop := run S (.eqv .ptr false (.c a0) (.c (.pointer none))) [] H fun t4_1 H => gd t4_1 false (run S (.mv (.c a0))
  [] H) H fun t6_2 H => gd t4_1 false (run S (.nck (.c t6_2)) [] H) H fun t7_3 H => gd t4_1 false (run S (.fad 1 (.c t7_3)) [] H) H fun t8_4 H => gd t4_1 false (run S
  (.ld (.c t8_4)) [] H) H fun t9_5 H => run S (.pick (.c t4_1) (.c (.bool true)) (.c t9_5)) [] H fun t10_6 H => R t10_6 H
theorem h101 (S : Sys) (a0 : Value) (H : Heap) (R : Kv) : wpC S k101.body (Env.get [a0]) H (fn [(.t 2)] R) = s101 S a0 H R := by kernel_rfl
theorem w101 {S : Sys} (hR : S.R 101 = none) (hF : S.F 101 = some k101) (a0 : Value) {H : Heap} {R : Kv} (h : s101 S a0 H R) : Wf S 101 [a0] H R := Wf_sh hR hF ((h101 S
  a0 H R).mpr h)
def s102 (S : Sys) (a0 a1 : Value) (H : Heap) (R : Kv) : Prop := run S (.mx (.c a1) [(.c (.int .i64 0))]) [] H fun t7_1 H => run S (.call 101 [(.c a0)]) [] H fun t9_2 H
  => gd t9_2 false (run S (.mv (.c a0)) [] H) H fun t11_3 H => gd t9_2 false (run S (.nck (.c t11_3)) [] H) H fun t12_4 H => gd t9_2 false (run S (.fad 0 (.c t12_4)) []
  H) H fun t13_5 H => gd t9_2 false (run S (.ld (.c t13_5)) [] H) H fun t14_6 H => gd t9_2 false (run S (.lenS (.c t14_6)) [] H) H fun t15_7 H => gd t9_2 false (run S
  (.mv (.c t7_1)) [] H) H fun t16_8 H => gd t9_2 false (run S (.bin .lss (.c t15_7) (.c t16_8)) [] H) H fun t17_9 H => run S (.pick (.c t9_2) (.c (.bool true)) (.c
  t17_9)) [] H fun t18_10 H => jn (sq (fun e12 H => run S (.nck (.c (e12 0))) [] H fun t22_13 H => run S (.fad 0 (.c t22_13)) [] H fun t23_14 H => run S (.ld (.c
  t23_14)) [] H fun t24_15 H => run S (.slS (.c t24_15) none (some (.c (e12 1)))) [] H fun t26_16 H => run S (.nck (.c (e12 0))) [] H fun t29_17 H => run S (.fad 0 (.c
  t29_17)) [] H fun t30_18 H => run S (.ld (.c t30_18)) [] H fun t31_19 H => run S (.slS (.c t31_19) (some (.c (e12 1))) none) [] H fun t33_20 H => run S (.nck (.c (e12
  0))) [] H fun t34_21 H => run S (.fad 0 (.c t34_21)) [] H fun t35_22 H => run S (.st (.c t35_22) (.c t33_20)) [] H fun _ H => R t26_16 H) (fn [(.t 4)] R)) fun Q11 =>
  cnd t18_10 (fun Q23 => run S (.call 126 [(.c a0)]) [] H fun t20_25 H => Q23 .ret (upd (upd (upd (upd (upd (upd (upd (upd (upd (upd (upd (upd (upd (upd (upd (upd (upd
  (upd (Env.get [a0, a1]) 4 (.string (bs []))) 6 a1) 7 t7_1) 1 t7_1) 8 a0) 9 t9_2) 10 t9_2) 11 t11_3) 12 t12_4) 13 t13_5) 14 t14_6) 15 t15_7) 16 t16_8) 17 t17_9) 18
  t18_10) 19 a0) 20 t20_25) 4 (.string (bs []))) H) (fun Q24 => Q24 .normal (upd (upd (upd (upd (upd (upd (upd (upd (upd (upd (upd (upd (upd (upd (upd (Env.get [a0, a1])
  4 (.string (bs []))) 6 a1) 7 t7_1) 1 t7_1) 8 a0) 9 t9_2) 10 t9_2) 11 t11_3) 12 t12_4) 13 t13_5) 14 t14_6) 15 t15_7) 16 t16_8) 17 t17_9) 18 t18_10) H) Q11
theorem h102 (S : Sys) (a0 a1 : Value) (H : Heap) (R : Kv) : wpC S k102.body (Env.get [a0, a1]) H (fn [(.t 4)] R) = s102 S a0 a1 H R := by kernel_rfl
theorem w102 {S : Sys} (hR : S.R 102 = none) (hF : S.F 102 = some k102) (a0 a1 : Value) {H : Heap} {R : Kv} (h : s102 S a0 a1 H R) : Wf S 102 [a0, a1] H R := Wf_sh hR hF
  ((h102 S a0 a1 H R).mpr h)
def s105 (S : Sys) (a0 : Value) (H : Heap) (R : Kv) : Prop := run S (.mx (.c a0) [(.c (.int .i64 0))]) [] H fun t4_1 H => run S (.mn (.c t4_1) [(.c (.int .i64 8))]) [] H
  fun t5_2 H => R t5_2 H
theorem h105 (S : Sys) (a0 : Value) (H : Heap) (R : Kv) : wpC S k105.body (Env.get [a0]) H (fn [(.t 2)] R) = s105 S a0 H R := by kernel_rfl
theorem w105 {S : Sys} (hR : S.R 105 = none) (hF : S.F 105 = some k105) (a0 : Value) {H : Heap} {R : Kv} (h : s105 S a0 H R) : Wf S 105 [a0] H R := Wf_sh hR hF ((h105 S
  a0 H R).mpr h)
def b108_1 : KCode := (.seq (.seq (.reg [(.op (some 21) none (.mv (.t 6))), (.op (some 22) none (.mv (.t 0))), (.op (some 23) none (.lenL (.t 22))), (.op (some 24) none
  (.bin .lss (.t 21) (.t 23)))]) (.cond (.t 24) .skip (.exit 2))) (.seq (.block 3 (.seq (.reg [(.op (some 27) none (.mv (.t 0))), (.op (some 28) none (.mv (.t 6))), (.op
  (some 29) none (.iad 1 (.t 27) (.t 28))), (.op (some 30) none (.ld (.t 29))), (.op (some 31) none (.bin .gtr (.t 30) (.c (.int .i64 0)))), (.op (some 32) none (.mv (.t
  31))), (.op (some 33) (some (32, true)) (.mv (.t 0))), (.op (some 34) (some (32, true)) (.mv (.t 6))), (.op (some 35) (some (32, true)) (.iad 1 (.t 33) (.t 34))), (.op
  (some 36) (some (32, true)) (.ld (.t 35))), (.op (some 37) (some (32, true)) (.mv (.t 0))), (.op (some 38) (some (32, true)) (.mv (.t 4))), (.op (some 39) (some (32,
  true)) (.iad 1 (.t 37) (.t 38))), (.op (some 40) (some (32, true)) (.ld (.t 39))), (.op (some 41) (some (32, true)) (.bin .lss (.t 36) (.t 40))), (.op (some 42) (some
  (32, true)) (.mv (.t 41))), (.op (some 43) (some (42, false)) (.mv (.t 0))), (.op (some 44) (some (42, false)) (.mv (.t 6))), (.op (some 45) (some (42, false)) (.iad 1
  (.t 43) (.t 44))), (.op (some 46) (some (42, false)) (.ld (.t 45))), (.op (some 47) (some (42, false)) (.mv (.t 0))), (.op (some 48) (some (42, false)) (.mv (.t 4))),
  (.op (some 49) (some (42, false)) (.iad 1 (.t 47) (.t 48))), (.op (some 50) (some (42, false)) (.ld (.t 49))), (.op (some 51) (some (42, false)) (.bin .eql (.t 46) (.t
  50))), (.op (some 52) (some (42, false)) (.mv (.t 51))), (.op (some 53) (some (52, true)) (.mv (.t 6))), (.op (some 54) (some (52, true)) (.mv (.t 4))), (.op (some 55)
  (some (52, true)) (.bin .lss (.t 53) (.t 54))), (.op (some 56) (some (42, false)) (.pick (.t 52) (.t 55) (.c (.bool false)))), (.op (some 57) (some (32, true)) (.pick
  (.t 42) (.c (.bool true)) (.t 56))), (.op (some 58) none (.pick (.t 32) (.t 57) (.c (.bool false))))]) (.cond (.t 58) (.reg [(.op (some 59) none (.mv (.t 5))), (.op
  (some 60) none (.mv (.t 0))), (.op (some 61) none (.mv (.t 6))), (.op (some 62) none (.iad 1 (.t 60) (.t 61))), (.op (some 63) none (.ld (.t 62))), (.op (some 64) none
  (.bin .sub (.c (.int .i64 11)) (.t 63))), (.op (some 65) none (.call 60 [(.t 64)])), (.op (some 66) none (.bin .add (.t 59) (.t 65))), (.op (some 5) none (.mv (.t
  66)))]) .skip))) (.reg [(.op (some 25) none (.mv (.t 6))), (.op (some 26) none (.bin .add (.t 25) (.c (.int .i64 1)))), (.op (some 6) none (.mv (.t 26)))])))
def s108_1 (S : Sys) (e : Fe) (H : Heap) (Q : Kx) : Prop := run S (.lenL (.c (e 0))) [] H fun t23_32 H => run S (.bin .lss (.c (e 6)) (.c t23_32)) [] H fun t24_33 H =>
  jn (sq (fun e35 H => jn (sq (fun e37 H => run S (.bin .add (.c (e37 6)) (.c (.int .i64 1))) [] H fun t26_38 H => Q .normal (upd (upd (upd e37 25 (e37 6)) 26 t26_38) 6
  t26_38) H) Q) fun Q36 => run S (.iad 1 (.c (e35 0)) (.c (e35 6))) [] H fun t29_39 H => run S (.ld (.c t29_39)) [] H fun t30_40 H => run S (.bin .gtr (.c t30_40) (.c
  (.int .i64 0))) [] H fun t31_41 H => gd t31_41 true (run S (.mv (.c (e35 0))) [] H) H fun t33_42 H => gd t31_41 true (run S (.mv (.c (e35 6))) [] H) H fun t34_43 H =>
  gd t31_41 true (run S (.iad 1 (.c t33_42) (.c t34_43)) [] H) H fun t35_44 H => gd t31_41 true (run S (.ld (.c t35_44)) [] H) H fun t36_45 H => gd t31_41 true (run S
  (.mv (.c (e35 0))) [] H) H fun t37_46 H => gd t31_41 true (run S (.mv (.c (e35 4))) [] H) H fun t38_47 H => gd t31_41 true (run S (.iad 1 (.c t37_46) (.c t38_47)) []
  H) H fun t39_48 H => gd t31_41 true (run S (.ld (.c t39_48)) [] H) H fun t40_49 H => gd t31_41 true (run S (.bin .lss (.c t36_45) (.c t40_49)) [] H) H fun t41_50 H =>
  gd t31_41 true (run S (.mv (.c t41_50)) [] H) H fun t42_51 H => gd t42_51 false (run S (.mv (.c (e35 0))) [] H) H fun t43_52 H => gd t42_51 false (run S (.mv (.c (e35
  6))) [] H) H fun t44_53 H => gd t42_51 false (run S (.iad 1 (.c t43_52) (.c t44_53)) [] H) H fun t45_54 H => gd t42_51 false (run S (.ld (.c t45_54)) [] H) H fun
  t46_55 H => gd t42_51 false (run S (.mv (.c (e35 0))) [] H) H fun t47_56 H => gd t42_51 false (run S (.mv (.c (e35 4))) [] H) H fun t48_57 H => gd t42_51 false (run S
  (.iad 1 (.c t47_56) (.c t48_57)) [] H) H fun t49_58 H => gd t42_51 false (run S (.ld (.c t49_58)) [] H) H fun t50_59 H => gd t42_51 false (run S (.bin .eql (.c t46_55)
  (.c t50_59)) [] H) H fun t51_60 H => gd t42_51 false (run S (.mv (.c t51_60)) [] H) H fun t52_61 H => gd t52_61 true (run S (.mv (.c (e35 6))) [] H) H fun t53_62 H =>
  gd t52_61 true (run S (.mv (.c (e35 4))) [] H) H fun t54_63 H => gd t52_61 true (run S (.bin .lss (.c t53_62) (.c t54_63)) [] H) H fun t55_64 H => gd t42_51 false (run
  S (.pick (.c t52_61) (.c t55_64) (.c (.bool false))) [] H) H fun t56_65 H => gd t31_41 true (run S (.pick (.c t42_51) (.c (.bool true)) (.c t56_65)) [] H) H fun t57_66
  H => run S (.pick (.c t31_41) (.c t57_66) (.c (.bool false))) [] H fun t58_67 H => jn (blk 3 Q36) fun Q68 => cnd t58_67 (fun Q69 => run S (.iad 1 (.c (e35 0)) (.c (e35
  6))) [] H fun t62_71 H => run S (.ld (.c t62_71)) [] H fun t63_72 H => run S (.bin .sub (.c (.int .i64 11)) (.c t63_72)) [] H fun t64_73 H => run S (.call 60 [(.c
  t64_73)]) [] H fun t65_74 H => run S (.bin .add (.c (e35 5)) (.c t65_74)) [] H fun t66_75 H => Q69 .normal (upd (upd (upd (upd (upd (upd (upd (upd (upd (upd (upd (upd
  (upd (upd (upd (upd (upd (upd (upd (upd (upd (upd (upd (upd (upd (upd (upd (upd (upd (upd (upd (upd (upd (upd (upd (upd (upd (upd (upd (upd (upd e35 27 (e35 0)) 28
  (e35 6)) 29 t29_39) 30 t30_40) 31 t31_41) 32 t31_41) 33 t33_42) 34 t34_43) 35 t35_44) 36 t36_45) 37 t37_46) 38 t38_47) 39 t39_48) 40 t40_49) 41 t41_50) 42 t42_51) 43
  t43_52) 44 t44_53) 45 t45_54) 46 t46_55) 47 t47_56) 48 t48_57) 49 t49_58) 50 t50_59) 51 t51_60) 52 t52_61) 53 t53_62) 54 t54_63) 55 t55_64) 56 t56_65) 57 t57_66) 58
  t58_67) 59 (e35 5)) 60 (e35 0)) 61 (e35 6)) 62 t62_71) 63 t63_72) 64 t64_73) 65 t65_74) 66 t66_75) 5 t66_75) H) (fun Q70 => Q70 .normal (upd (upd (upd (upd (upd (upd
  (upd (upd (upd (upd (upd (upd (upd (upd (upd (upd (upd (upd (upd (upd (upd (upd (upd (upd (upd (upd (upd (upd (upd (upd (upd (upd e35 27 (e35 0)) 28 (e35 6)) 29
  t29_39) 30 t30_40) 31 t31_41) 32 t31_41) 33 t33_42) 34 t34_43) 35 t35_44) 36 t36_45) 37 t37_46) 38 t38_47) 39 t39_48) 40 t40_49) 41 t41_50) 42 t42_51) 43 t43_52) 44
  t44_53) 45 t45_54) 46 t46_55) 47 t47_56) 48 t48_57) 49 t49_58) 50 t50_59) 51 t51_60) 52 t52_61) 53 t53_62) 54 t54_63) 55 t55_64) 56 t56_65) 57 t57_66) 58 t58_67) H)
  Q68) Q) fun Q34 => cnd t24_33 (fun Q76 => Q76 .normal (upd (upd (upd (upd e 21 (e 6)) 22 (e 0)) 23 t23_32) 24 t24_33) H) (fun Q77 => Q77 (.exit 2) (upd (upd (upd (upd
  e 21 (e 6)) 22 (e 0)) 23 t23_32) 24 t24_33) H) Q34
theorem h108_1 (S : Sys) (e : Fe) (H : Heap) (Q : Kx) : wpC S b108_1 e H Q = s108_1 S e H Q := by kernel_rfl
theorem l108_1 (S : Sys) {Q : Kx} (I : Nat → Fe → Heap → Prop) (d : Nat) {e0 : Fe} {H : Heap} (h0 : I d e0 H) (hr : ∀ (d : Nat) (e : Fe) (H : Heap), I d e H → s108_1 S e
  H (sq (fun e' H' => ∃ d', d' < d ∧ I d' e' H') Q)) : WL S b108_1 e0 H Q := WL_inv I d h0 fun d e H hi => (h108_1 S e H _).mpr (hr d e H hi)
theorem u108_1 (S : Sys) {Q : Kx} {e : Fe} {H : Heap} (h : s108_1 S e H (sq (fun e' H' => WL S b108_1 e' H' Q) Q)) : WL S b108_1 e H Q := WL_once ((h108_1 S e H _).mpr h)
def b108_0 : KCode := (.seq (.seq (.reg [(.op (some 10) none (.mv (.t 4))), (.op (some 11) none (.mv (.t 0))), (.op (some 12) none (.lenL (.t 11))), (.op (some 13) none
  (.bin .lss (.t 10) (.t 12)))]) (.cond (.t 13) .skip (.exit 0))) (.seq (.block 1 (.seq (.seq (.reg [(.op (some 16) none (.mv (.t 0))), (.op (some 17) none (.mv (.t
  4))), (.op (some 18) none (.iad 1 (.t 16) (.t 17))), (.op (some 19) none (.ld (.t 18))), (.op (some 20) none (.bin .eql (.t 19) (.c (.int .i64 0))))]) (.cond (.t 20)
  (.exit 1) .skip)) (.seq (.reg [(.op (some 5) none (.mv (.c (.int .i64 0))))]) (.seq (.seq (.reg [(.op (some 6) none (.mv (.c (.int .i64 0))))]) (.block 2 (.loop (.seq
  (.seq (.reg [(.op (some 21) none (.mv (.t 6))), (.op (some 22) none (.mv (.t 0))), (.op (some 23) none (.lenL (.t 22))), (.op (some 24) none (.bin .lss (.t 21) (.t
  23)))]) (.cond (.t 24) .skip (.exit 2))) (.seq (.block 3 (.seq (.reg [(.op (some 27) none (.mv (.t 0))), (.op (some 28) none (.mv (.t 6))), (.op (some 29) none (.iad 1
  (.t 27) (.t 28))), (.op (some 30) none (.ld (.t 29))), (.op (some 31) none (.bin .gtr (.t 30) (.c (.int .i64 0)))), (.op (some 32) none (.mv (.t 31))), (.op (some 33)
  (some (32, true)) (.mv (.t 0))), (.op (some 34) (some (32, true)) (.mv (.t 6))), (.op (some 35) (some (32, true)) (.iad 1 (.t 33) (.t 34))), (.op (some 36) (some (32,
  true)) (.ld (.t 35))), (.op (some 37) (some (32, true)) (.mv (.t 0))), (.op (some 38) (some (32, true)) (.mv (.t 4))), (.op (some 39) (some (32, true)) (.iad 1 (.t 37)
  (.t 38))), (.op (some 40) (some (32, true)) (.ld (.t 39))), (.op (some 41) (some (32, true)) (.bin .lss (.t 36) (.t 40))), (.op (some 42) (some (32, true)) (.mv (.t
  41))), (.op (some 43) (some (42, false)) (.mv (.t 0))), (.op (some 44) (some (42, false)) (.mv (.t 6))), (.op (some 45) (some (42, false)) (.iad 1 (.t 43) (.t 44))),
  (.op (some 46) (some (42, false)) (.ld (.t 45))), (.op (some 47) (some (42, false)) (.mv (.t 0))), (.op (some 48) (some (42, false)) (.mv (.t 4))), (.op (some 49)
  (some (42, false)) (.iad 1 (.t 47) (.t 48))), (.op (some 50) (some (42, false)) (.ld (.t 49))), (.op (some 51) (some (42, false)) (.bin .eql (.t 46) (.t 50))), (.op
  (some 52) (some (42, false)) (.mv (.t 51))), (.op (some 53) (some (52, true)) (.mv (.t 6))), (.op (some 54) (some (52, true)) (.mv (.t 4))), (.op (some 55) (some (52,
  true)) (.bin .lss (.t 53) (.t 54))), (.op (some 56) (some (42, false)) (.pick (.t 52) (.t 55) (.c (.bool false)))), (.op (some 57) (some (32, true)) (.pick (.t 42) (.c
  (.bool true)) (.t 56))), (.op (some 58) none (.pick (.t 32) (.t 57) (.c (.bool false))))]) (.cond (.t 58) (.reg [(.op (some 59) none (.mv (.t 5))), (.op (some 60) none
  (.mv (.t 0))), (.op (some 61) none (.mv (.t 6))), (.op (some 62) none (.iad 1 (.t 60) (.t 61))), (.op (some 63) none (.ld (.t 62))), (.op (some 64) none (.bin .sub (.c
  (.int .i64 11)) (.t 63))), (.op (some 65) none (.call 60 [(.t 64)])), (.op (some 66) none (.bin .add (.t 59) (.t 65))), (.op (some 5) none (.mv (.t 66)))]) .skip)))
  (.reg [(.op (some 25) none (.mv (.t 6))), (.op (some 26) none (.bin .add (.t 25) (.c (.int .i64 1)))), (.op (some 6) none (.mv (.t 26)))])))))) (.reg [(.op (some 67)
  none (.mv (.t 3))), (.op (some 68) none (.mv (.t 4))), (.op (some 69) none (.mv (.t 5))), (.op (some 70) none (.mv (.t 0))), (.op (some 71) none (.mv (.t 4))), (.op
  (some 72) none (.iad 1 (.t 70) (.t 71))), (.op (some 73) none (.ld (.t 72))), (.op (some 74) none (.bin .sub (.c (.int .i64 11)) (.t 73))), (.op (some 75) none (.call
  60 [(.t 74)])), (.op (some 76) none (.bin .quo (.t 69) (.t 75))), (.op (some 77) none (.iad 1 (.t 67) (.t 68))), (.op none none (.st (.t 77) (.t 76)))]))))) (.reg
  [(.op (some 14) none (.mv (.t 4))), (.op (some 15) none (.bin .add (.t 14) (.c (.int .i64 1)))), (.op (some 4) none (.mv (.t 15)))])))
def s108_0 (S : Sys) (e : Fe) (H : Heap) (Q : Kx) : Prop := run S (.lenL (.c (e 0))) [] H fun t12_6 H => run S (.bin .lss (.c (e 4)) (.c t12_6)) [] H fun t13_7 H => jn
  (sq (fun e9 H => jn (sq (fun e11 H => run S (.bin .add (.c (e11 4)) (.c (.int .i64 1))) [] H fun t15_12 H => Q .normal (upd (upd (upd e11 14 (e11 4)) 15 t15_12) 4
  t15_12) H) Q) fun Q10 => run S (.iad 1 (.c (e9 0)) (.c (e9 4))) [] H fun t18_13 H => run S (.ld (.c t18_13)) [] H fun t19_14 H => run S (.bin .eql (.c t19_14) (.c
  (.int .i64 0))) [] H fun t20_15 H => jn (blk 1 Q10) fun Q16 => jn (sq (fun e18 H => jn (sq (fun e20 H => run S (.iad 1 (.c (e20 0)) (.c (e20 4))) [] H fun t72_21 H =>
  run S (.ld (.c t72_21)) [] H fun t73_22 H => run S (.bin .sub (.c (.int .i64 11)) (.c t73_22)) [] H fun t74_23 H => run S (.call 60 [(.c t74_23)]) [] H fun t75_24 H =>
  run S (.bin .quo (.c (e20 5)) (.c t75_24)) [] H fun t76_25 H => run S (.iad 1 (.c (e20 3)) (.c (e20 4))) [] H fun t77_26 H => run S (.st (.c t77_26) (.c t76_25)) [] H
  fun _ H => Q16 .normal (upd (upd (upd (upd (upd (upd (upd (upd (upd (upd (upd e20 67 (e20 3)) 68 (e20 4)) 69 (e20 5)) 70 (e20 0)) 71 (e20 4)) 72 t72_21) 73 t73_22) 74
  t74_23) 75 t75_24) 76 t76_25) 77 t77_26) H) Q16) fun Q19 => jn (blk 2 Q19) fun Q27 => WL S b108_1 (upd (upd e18 5 (.int .i64 0)) 6 (.int .i64 0)) H Q27) Q16) fun Q17
  => cnd t20_15 (fun Q28 => Q28 (.exit 1) (upd (upd (upd (upd (upd e9 16 (e9 0)) 17 (e9 4)) 18 t18_13) 19 t19_14) 20 t20_15) H) (fun Q29 => Q29 .normal (upd (upd (upd
  (upd (upd e9 16 (e9 0)) 17 (e9 4)) 18 t18_13) 19 t19_14) 20 t20_15) H) Q17) Q) fun Q8 => cnd t13_7 (fun Q30 => Q30 .normal (upd (upd (upd (upd e 10 (e 4)) 11 (e 0)) 12
  t12_6) 13 t13_7) H) (fun Q31 => Q31 (.exit 0) (upd (upd (upd (upd e 10 (e 4)) 11 (e 0)) 12 t12_6) 13 t13_7) H) Q8
theorem h108_0 (S : Sys) (e : Fe) (H : Heap) (Q : Kx) : wpC S b108_0 e H Q = s108_0 S e H Q := by kernel_rfl
theorem l108_0 (S : Sys) {Q : Kx} (I : Nat → Fe → Heap → Prop) (d : Nat) {e0 : Fe} {H : Heap} (h0 : I d e0 H) (hr : ∀ (d : Nat) (e : Fe) (H : Heap), I d e H → s108_0 S e
  H (sq (fun e' H' => ∃ d', d' < d ∧ I d' e' H') Q)) : WL S b108_0 e0 H Q := WL_inv I d h0 fun d e H hi => (h108_0 S e H _).mpr (hr d e H hi)
theorem u108_0 (S : Sys) {Q : Kx} {e : Fe} {H : Heap} (h : s108_0 S e H (sq (fun e' H' => WL S b108_0 e' H' Q) Q)) : WL S b108_0 e H Q := WL_once ((h108_0 S e H _).mpr h)
def s108 (S : Sys) (a0 : Value) (H : Heap) (R : Kv) : Prop := run S (.lenL (.c a0)) [] H fun t8_1 H => run S (.mks 3 [(.int .i64 0)] 8 (.c t8_1) (.c t8_1)) [] H fun t9_2
  H => jn (sq (fun e4 H => R (e4 3) H) (fn [(.t 2)] R)) fun Q3 => jn (blk 0 Q3) fun Q5 => WL S b108_0 (upd (upd (upd (upd (upd (upd (Env.get [a0]) 2 (.slice none 0 0)) 7
  a0) 8 t8_1) 9 t9_2) 3 t9_2) 4 (.int .i64 0)) H Q5
theorem h108 (S : Sys) (a0 : Value) (H : Heap) (R : Kv) : wpC S k108.body (Env.get [a0]) H (fn [(.t 2)] R) = s108 S a0 H R := by kernel_rfl
theorem w108 {S : Sys} (hR : S.R 108 = none) (hF : S.F 108 = some k108) (a0 : Value) {H : Heap} {R : Kv} (h : s108 S a0 H R) : Wf S 108 [a0] H R := Wf_sh hR hF ((h108 S
  a0 H R).mpr h)
def b111_0 : KCode := (.seq (.seq (.reg [(.op (some 9) none (.mv (.t 3))), (.op (some 10) none (.bin .geq (.t 9) (.c (.int .i64 0))))]) (.cond (.t 10) .skip (.exit 0)))
  (.seq (.block 1 (.reg [(.op (some 13) none (.mv (.t 0))), (.op (some 14) none (.mv (.t 3))), (.op (some 15) none (.mv (.t 2))), (.op (some 16) none (.call 131 [(.t
  13), (.t 14), (.t 15)]))])) (.reg [(.op (some 11) none (.mv (.t 3))), (.op (some 12) none (.bin .sub (.t 11) (.c (.int .i64 1)))), (.op (some 3) none (.mv (.t 12)))])))
def s111_0 (S : Sys) (e : Fe) (H : Heap) (Q : Kx) : Prop := run S (.bin .geq (.c (e 3)) (.c (.int .i64 0))) [] H fun t10_5 H => jn (sq (fun e7 H => jn (sq (fun e9 H =>
  run S (.bin .sub (.c (e9 3)) (.c (.int .i64 1))) [] H fun t12_10 H => Q .normal (upd (upd (upd e9 11 (e9 3)) 12 t12_10) 3 t12_10) H) Q) fun Q8 => run S (.call 131 [(.c
  (e7 0)), (.c (e7 3)), (.c (e7 2))]) [] H fun t16_11 H => Q8 .normal (upd (upd (upd (upd e7 13 (e7 0)) 14 (e7 3)) 15 (e7 2)) 16 t16_11) H) Q) fun Q6 => cnd t10_5 (fun
  Q12 => Q12 .normal (upd (upd e 9 (e 3)) 10 t10_5) H) (fun Q13 => Q13 (.exit 0) (upd (upd e 9 (e 3)) 10 t10_5) H) Q6
theorem h111_0 (S : Sys) (e : Fe) (H : Heap) (Q : Kx) : wpC S b111_0 e H Q = s111_0 S e H Q := by kernel_rfl
theorem l111_0 (S : Sys) {Q : Kx} (I : Nat → Fe → Heap → Prop) (d : Nat) {e0 : Fe} {H : Heap} (h0 : I d e0 H) (hr : ∀ (d : Nat) (e : Fe) (H : Heap), I d e H → s111_0 S e
  H (sq (fun e' H' => ∃ d', d' < d ∧ I d' e' H') Q)) : WL S b111_0 e0 H Q := WL_inv I d h0 fun d e H hi => (h111_0 S e H _).mpr (hr d e H hi)
theorem u111_0 (S : Sys) {Q : Kx} {e : Fe} {H : Heap} (h : s111_0 S e H (sq (fun e' H' => WL S b111_0 e' H' Q) Q)) : WL S b111_0 e H Q := WL_once ((h111_0 S e H _).mpr h)
def s111 (S : Sys) (a0 : Value) (H : Heap) (R : Kv) : Prop := run S (.inv (.c a0) "Len" []) [] H fun t5_1 H => run S (.bin .quo (.c t5_1) (.c (.int .i64 2))) [] H fun
  t7_2 H => run S (.bin .sub (.c t7_2) (.c (.int .i64 1))) [] H fun t8_3 H => jn (blk 0 (fn [] R)) fun Q4 => WL S b111_0 (upd (upd (upd (upd (upd (upd (upd (Env.get
  [a0]) 4 a0) 5 t5_1) 2 t5_1) 6 t5_1) 7 t7_2) 8 t8_3) 3 t8_3) H Q4
theorem h111 (S : Sys) (a0 : Value) (H : Heap) (R : Kv) : wpC S k111.body (Env.get [a0]) H (fn [] R) = s111 S a0 H R := by kernel_rfl
theorem w111 {S : Sys} (hR : S.R 111 = none) (hF : S.F 111 = some k111) (a0 : Value) {H : Heap} {R : Kv} (h : s111 S a0 H R) : Wf S 111 [a0] H R := Wf_sh hR hF ((h111 S
  a0 H R).mpr h)
def s113 (S : Sys) (a0 : Value) (H : Heap) (R : Kv) : Prop := run S (.inv (.c a0) "Len" []) [] H fun t5_1 H => run S (.bin .sub (.c t5_1) (.c (.int .i64 1))) [] H fun
  t6_2 H => run S (.inv (.c a0) "Swap" [(.c (.int .i64 0)), (.c t6_2)]) [] H fun t9_3 H => run S (.call 131 [(.c a0), (.c (.int .i64 0)), (.c t6_2)]) [] H fun t12_4 H =>
  run S (.inv (.c a0) "Pop" []) [] H fun t14_5 H => R t14_5 H
theorem h113 (S : Sys) (a0 : Value) (H : Heap) (R : Kv) : wpC S k113.body (Env.get [a0]) H (fn [(.t 2)] R) = s113 S a0 H R := by kernel_rfl
theorem w113 {S : Sys} (hR : S.R 113 = none) (hF : S.F 113 = some k113) (a0 : Value) {H : Heap} {R : Kv} (h : s113 S a0 H R) : Wf S 113 [a0] H R := Wf_sh hR hF ((h113 S
  a0 H R).mpr h)
def s114 (S : Sys) (a0 a1 : Value) (H : Heap) (R : Kv) : Prop := run S (.inv (.c a0) "Push" [(.c a1)]) [] H fun t6_1 H => run S (.inv (.c a0) "Len" []) [] H fun t9_2 H
  => run S (.bin .sub (.c t9_2) (.c (.int .i64 1))) [] H fun t10_3 H => run S (.call 132 [(.c a0), (.c t10_3)]) [] H fun t11_4 H => R (tup []) H
theorem h114 (S : Sys) (a0 a1 : Value) (H : Heap) (R : Kv) : wpC S k114.body (Env.get [a0, a1]) H (fn [] R) = s114 S a0 a1 H R := by kernel_rfl
theorem w114 {S : Sys} (hR : S.R 114 = none) (hF : S.F 114 = some k114) (a0 a1 : Value) {H : Heap} {R : Kv} (h : s114 S a0 a1 H R) : Wf S 114 [a0, a1] H R := Wf_sh hR hF
  ((h114 S a0 a1 H R).mpr h)
def b118_0 : KCode := (.seq (.reg [(.op (some 9) none (.bin .lss (.t 8) (.t 7)))]) (.seq (.cond (.t 9) .skip (.exit 0)) (.seq (.block 1 (.seq (.reg [(.op (some 10) none
  (.iad 1 (.t 6) (.t 8))), (.op (some 11) none (.ld (.t 10))), (.op (some 5) none (.mv (.t 11)))]) (.reg [(.op (some 12) none (.mv (.t 3))), (.op (some 13) none (.mv (.t
  5))), (.op (some 14) none (.bin .add (.t 12) (.t 13))), (.op (some 3) none (.mv (.t 14)))]))) (.reg [(.op (some 15) none (.bin .add (.t 8) (.c (.int .i64 1)))), (.op
  (some 8) none (.mv (.t 15)))]))))
def s118_0 (S : Sys) (e : Fe) (H : Heap) (Q : Kx) : Prop := run S (.bin .lss (.c (e 8)) (.c (e 7))) [] H fun t9_5 H => jn (sq (fun e7 H => jn (sq (fun e9 H => run S
  (.bin .add (.c (e9 8)) (.c (.int .i64 1))) [] H fun t15_10 H => Q .normal (upd (upd e9 15 t15_10) 8 t15_10) H) Q) fun Q8 => run S (.iad 1 (.c (e7 6)) (.c (e7 8))) [] H
  fun t10_11 H => run S (.ld (.c t10_11)) [] H fun t11_12 H => run S (.bin .add (.c (e7 3)) (.c t11_12)) [] H fun t14_13 H => Q8 .normal (upd (upd (upd (upd (upd (upd
  (upd e7 10 t10_11) 11 t11_12) 5 t11_12) 12 (e7 3)) 13 t11_12) 14 t14_13) 3 t14_13) H) Q) fun Q6 => cnd t9_5 (fun Q14 => Q14 .normal (upd e 9 t9_5) H) (fun Q15 => Q15
  (.exit 0) (upd e 9 t9_5) H) Q6
theorem h118_0 (S : Sys) (e : Fe) (H : Heap) (Q : Kx) : wpC S b118_0 e H Q = s118_0 S e H Q := by kernel_rfl
theorem l118_0 (S : Sys) {Q : Kx} (I : Nat → Fe → Heap → Prop) (d : Nat) {e0 : Fe} {H : Heap} (h0 : I d e0 H) (hr : ∀ (d : Nat) (e : Fe) (H : Heap), I d e H → s118_0 S e
  H (sq (fun e' H' => ∃ d', d' < d ∧ I d' e' H') Q)) : WL S b118_0 e0 H Q := WL_inv I d h0 fun d e H hi => (h118_0 S e H _).mpr (hr d e H hi)
theorem u118_0 (S : Sys) {Q : Kx} {e : Fe} {H : Heap} (h : s118_0 S e H (sq (fun e' H' => WL S b118_0 e' H' Q) Q)) : WL S b118_0 e H Q := WL_once ((h118_0 S e H _).mpr h)
def s118 (S : Sys) (a0 : Value) (H : Heap) (R : Kv) : Prop := run S (.lenL (.c a0)) [] H fun t7_1 H => jn (sq (fun e3 H => R (e3 3) H) (fn [(.t 2)] R)) fun Q2 => jn (blk
  0 Q2) fun Q4 => WL S b118_0 (upd (upd (upd (upd (upd (Env.get [a0]) 2 (.int .i64 0)) 3 (.int .i64 0)) 6 a0) 7 t7_1) 8 (.int .i64 0)) H Q4
theorem h118 (S : Sys) (a0 : Value) (H : Heap) (R : Kv) : wpC S k118.body (Env.get [a0]) H (fn [(.t 2)] R) = s118 S a0 H R := by kernel_rfl
theorem w118 {S : Sys} (hR : S.R 118 = none) (hF : S.F 118 = some k118) (a0 : Value) {H : Heap} {R : Kv} (h : s118 S a0 H R) : Wf S 118 [a0] H R := Wf_sh hR hF ((h118 S
  a0 H R).mpr h)
def s119 (S : Sys) (a0 : Value) (H : Heap) (R : Kv) : Prop := run S (.lenL (.c a0)) [] H fun t4_1 H => R t4_1 H
theorem h119 (S : Sys) (a0 : Value) (H : Heap) (R : Kv) : wpC S k119.body (Env.get [a0]) H (fn [(.t 2)] R) = s119 S a0 H R := by kernel_rfl
theorem w119 {S : Sys} (hR : S.R 119 = none) (hF : S.F 119 = some k119) (a0 : Value) {H : Heap} {R : Kv} (h : s119 S a0 H R) : Wf S 119 [a0] H R := Wf_sh hR hF ((h119 S
  a0 H R).mpr h)
def s120 (S : Sys) (a0 : Value) (H : Heap) (R : Kv) : Prop := run S (.mki 157 (.c a0)) [] H fun t7_1 H => run S (.call 113 [(.c t7_1)]) [] H fun t8_2 H => run S (.tas
  120 (.pointer none) true (.c t8_2)) [] H fun t9_3 H => run S (.xt (.c t9_3) 0) [] H fun t10_4 H => run S (.xt (.c t9_3) 1) [] H fun t11_5 H => R t10_4 H
theorem h120 (S : Sys) (a0 : Value) (H : Heap) (R : Kv) : wpC S k120.body (Env.get [a0]) H (fn [(.t 2)] R) = s120 S a0 H R := by kernel_rfl
theorem w120 {S : Sys} (hR : S.R 120 = none) (hF : S.F 120 = some k120) (a0 : Value) {H : Heap} {R : Kv} (h : s120 S a0 H R) : Wf S 120 [a0] H R := Wf_sh hR hF ((h120 S
  a0 H R).mpr h)
def s121 (S : Sys) (a0 : Value) (H : Heap) (R : Kv) : Prop := run S (.call 135 [(.c a0)]) [] H fun t4_1 H => R t4_1 H
theorem h121 (S : Sys) (a0 : Value) (H : Heap) (R : Kv) : wpC S k121.body (Env.get [a0]) H (fn [(.t 2)] R) = s121 S a0 H R := by kernel_rfl
theorem w121 {S : Sys} (hR : S.R 121 = none) (hF : S.F 121 = some k121) (a0 : Value) {H : Heap} {R : Kv} (h : s121 S a0 H R) : Wf S 121 [a0] H R := Wf_sh hR hF ((h121 S
  a0 H R).mpr h)
def s124 (S : Sys) (a0 a1 : Value) (H : Heap) (R : Kv) : Prop := run S (.call 137 [(.c a0)]) [] H fun t8_1 H => run S (.call 137 [(.c a1)]) [] H fun t10_2 H => jn (sq
  (fun e4 H => jn (sq (fun e6 H => run S (.bin .lss (.c (e6 0)) (.c (e6 1))) [] H fun t16_7 H => jn (sq (fun e9 H => run S (.bin .gtr (.c (e9 0)) (.c (e9 1))) [] H fun
  t19_10 H => jn (sq (fun e12 H => R (.int .i64 0) H) (fn [(.t 4)] R)) fun Q11 => cnd t19_10 (fun Q13 => Q13 .ret (upd (upd (upd (upd e9 17 (e9 0)) 18 (e9 1)) 19 t19_10)
  4 (.int .i64 1)) H) (fun Q14 => Q14 .normal (upd (upd (upd e9 17 (e9 0)) 18 (e9 1)) 19 t19_10) H) Q11) (fn [(.t 4)] R)) fun Q8 => cnd t16_7 (fun Q15 => Q15 .ret (upd
  (upd (upd (upd e6 14 (e6 0)) 15 (e6 1)) 16 t16_7) 4 (.int .i64 (-1))) H) (fun Q16 => Q16 .normal (upd (upd (upd e6 14 (e6 0)) 15 (e6 1)) 16 t16_7) H) Q8) (fn [(.t 4)]
  R)) fun Q5 => cnd (e4 6) (fun Q17 => Q17 .ret (upd (upd e4 13 (e4 6)) 4 (.int .i64 1)) H) (fun Q18 => Q18 .normal (upd e4 13 (e4 6)) H) Q5) (fn [(.t 4)] R)) fun Q3 =>
  cnd t8_1 (fun Q19 => jn (sq (fun e22 H => Q19 .ret (upd e22 4 (.int .i64 (-1))) H) Q19) fun Q21 => cnd t10_2 (fun Q23 => Q23 .ret (upd (upd (upd (upd (upd (upd (upd
  (upd (upd (upd (Env.get [a0, a1]) 4 (.int .i64 0)) 7 a0) 8 t8_1) 5 t8_1) 9 a1) 10 t10_2) 6 t10_2) 11 t8_1) 12 t10_2) 4 (.int .i64 0)) H) (fun Q24 => Q24 .normal (upd
  (upd (upd (upd (upd (upd (upd (upd (upd (Env.get [a0, a1]) 4 (.int .i64 0)) 7 a0) 8 t8_1) 5 t8_1) 9 a1) 10 t10_2) 6 t10_2) 11 t8_1) 12 t10_2) H) Q21) (fun Q20 => Q20
  .normal (upd (upd (upd (upd (upd (upd (upd (upd (Env.get [a0, a1]) 4 (.int .i64 0)) 7 a0) 8 t8_1) 5 t8_1) 9 a1) 10 t10_2) 6 t10_2) 11 t8_1) H) Q3
theorem h124 (S : Sys) (a0 a1 : Value) (H : Heap) (R : Kv) : wpC S k124.body (Env.get [a0, a1]) H (fn [(.t 4)] R) = s124 S a0 a1 H R := by kernel_rfl
theorem w124 {S : Sys} (hR : S.R 124 = none) (hF : S.F 124 = some k124) (a0 a1 : Value) {H : Heap} {R : Kv} (h : s124 S a0 a1 H R) : Wf S 124 [a0, a1] H R := Wf_sh hR hF
  ((h124 S a0 a1 H R).mpr h)
def s126 (S : Sys) (a0 : Value) (H : Heap) (R : Kv) : Prop := run S (.eqv .ptr true (.c a0) (.c (.pointer none))) [] H fun t3_1 H => cnd t3_1 (fun Q2 => run S (.nck (.c
  a0)) [] H fun t6_4 H => run S (.fad 0 (.c t6_4)) [] H fun t7_5 H => run S (.st (.c t7_5) (.c (.string (bs [])))) [] H fun _ H => run S (.nck (.c a0)) [] H fun t8_6 H
  => run S (.fad 1 (.c t8_6)) [] H fun t9_7 H => run S (.st (.c t9_7) (.c (.bool true))) [] H fun _ H => Q2 .normal (upd (upd (upd (upd (upd (upd (upd (upd (Env.get
  [a0]) 2 a0) 3 t3_1) 4 a0) 5 a0) 6 t6_4) 7 t7_5) 8 t8_6) 9 t9_7) H) (fun Q3 => Q3 .normal (upd (upd (Env.get [a0]) 2 a0) 3 t3_1) H) (fn [] R)
theorem h126 (S : Sys) (a0 : Value) (H : Heap) (R : Kv) : wpC S k126.body (Env.get [a0]) H (fn [] R) = s126 S a0 H R := by kernel_rfl
theorem w126 {S : Sys} (hR : S.R 126 = none) (hF : S.F 126 = some k126) (a0 : Value) {H : Heap} {R : Kv} (h : s126 S a0 H R) : Wf S 126 [a0] H R := Wf_sh hR hF ((h126 S
  a0 H R).mpr h)
def b131_0 : KCode := (.block 1 (.seq (.reg [(.op (some 12) none (.mv (.t 7))), (.op (some 13) none (.bin .mul (.c (.int .i64 2)) (.t 12))), (.op (some 14) none (.bin
  .add (.t 13) (.c (.int .i64 1)))), (.op (some 8) none (.mv (.t 14)))]) (.seq (.seq (.reg [(.op (some 15) none (.mv (.t 8))), (.op (some 16) none (.mv (.t 2))), (.op
  (some 17) none (.bin .geq (.t 15) (.t 16))), (.op (some 18) none (.mv (.t 17))), (.op (some 19) (some (18, false)) (.mv (.t 8))), (.op (some 20) (some (18, false))
  (.bin .lss (.t 19) (.c (.int .i64 0)))), (.op (some 21) none (.pick (.t 18) (.c (.bool true)) (.t 20)))]) (.cond (.t 21) (.exit 0) .skip)) (.seq (.reg [(.op (some 22)
  none (.mv (.t 8))), (.op (some 9) none (.mv (.t 22)))]) (.seq (.seq (.reg [(.op (some 23) none (.mv (.t 8))), (.op (some 24) none (.bin .add (.t 23) (.c (.int .i64
  1)))), (.op (some 10) none (.mv (.t 24)))]) (.seq (.reg [(.op (some 25) none (.mv (.t 10))), (.op (some 26) none (.mv (.t 2))), (.op (some 27) none (.bin .lss (.t 25)
  (.t 26))), (.op (some 28) none (.mv (.t 27))), (.op (some 29) (some (28, true)) (.mv (.t 0))), (.op (some 30) (some (28, true)) (.mv (.t 10))), (.op (some 31) (some
  (28, true)) (.mv (.t 8))), (.op (some 32) (some (28, true)) (.inv (.t 29) "Less" [(.t 30), (.t 31)])), (.op (some 33) none (.pick (.t 28) (.t 32) (.c (.bool
  false))))]) (.cond (.t 33) (.reg [(.op (some 34) none (.mv (.t 10))), (.op (some 9) none (.mv (.t 34)))]) .skip))) (.seq (.seq (.reg [(.op (some 35) none (.mv (.t
  0))), (.op (some 36) none (.mv (.t 9))), (.op (some 37) none (.mv (.t 7))), (.op (some 38) none (.inv (.t 35) "Less" [(.t 36), (.t 37)])), (.op (some 39) none (.un
  .not (.t 38)))]) (.cond (.t 39) (.exit 0) .skip)) (.seq (.reg [(.op (some 40) none (.mv (.t 0))), (.op (some 41) none (.mv (.t 7))), (.op (some 42) none (.mv (.t 9))),
  (.op (some 43) none (.inv (.t 40) "Swap" [(.t 41), (.t 42)]))]) (.reg [(.op (some 44) none (.mv (.t 9))), (.op (some 7) none (.mv (.t 44)))]))))))))
def s131_0 (S : Sys) (e : Fe) (H : Heap) (Q : Kx) : Prop := run S (.bin .mul (.c (.int .i64 2)) (.c (e 7))) [] H fun t13_5 H => run S (.bin .add (.c t13_5) (.c (.int
  .i64 1))) [] H fun t14_6 H => run S (.bin .geq (.c t14_6) (.c (e 2))) [] H fun t17_7 H => gd t17_7 false (run S (.mv (.c t14_6)) [] H) H fun t19_8 H => gd t17_7 false
  (run S (.bin .lss (.c t19_8) (.c (.int .i64 0))) [] H) H fun t20_9 H => run S (.pick (.c t17_7) (.c (.bool true)) (.c t20_9)) [] H fun t21_10 H => jn (blk 1 Q) fun Q11
  => jn (sq (fun e13 H => run S (.bin .add (.c (e13 8)) (.c (.int .i64 1))) [] H fun t24_14 H => run S (.bin .lss (.c t24_14) (.c (e13 2))) [] H fun t27_15 H => gd
  t27_15 true (run S (.mv (.c (e13 0))) [] H) H fun t29_16 H => gd t27_15 true (run S (.mv (.c t24_14)) [] H) H fun t30_17 H => gd t27_15 true (run S (.mv (.c (e13 8)))
  [] H) H fun t31_18 H => gd t27_15 true (run S (.inv (.c t29_16) "Less" [(.c t30_17), (.c t31_18)]) [] H) H fun t32_19 H => run S (.pick (.c t27_15) (.c t32_19) (.c
  (.bool false))) [] H fun t33_20 H => jn (sq (fun e22 H => run S (.inv (.c (e22 0)) "Less" [(.c (e22 9)), (.c (e22 7))]) [] H fun t38_23 H => run S (.un .not (.c
  t38_23)) [] H fun t39_24 H => jn (sq (fun e26 H => run S (.inv (.c (e26 0)) "Swap" [(.c (e26 7)), (.c (e26 9))]) [] H fun t43_27 H => Q11 .normal (upd (upd (upd (upd
  (upd (upd e26 40 (e26 0)) 41 (e26 7)) 42 (e26 9)) 43 t43_27) 44 (e26 9)) 7 (e26 9)) H) Q11) fun Q25 => cnd t39_24 (fun Q28 => Q28 (.exit 0) (upd (upd (upd (upd (upd
  e22 35 (e22 0)) 36 (e22 9)) 37 (e22 7)) 38 t38_23) 39 t39_24) H) (fun Q29 => Q29 .normal (upd (upd (upd (upd (upd e22 35 (e22 0)) 36 (e22 9)) 37 (e22 7)) 38 t38_23) 39
  t39_24) H) Q25) Q11) fun Q21 => cnd t33_20 (fun Q30 => Q30 .normal (upd (upd (upd (upd (upd (upd (upd (upd (upd (upd (upd (upd (upd (upd (upd (upd e13 22 (e13 8)) 9
  (e13 8)) 23 (e13 8)) 24 t24_14) 10 t24_14) 25 t24_14) 26 (e13 2)) 27 t27_15) 28 t27_15) 29 t29_16) 30 t30_17) 31 t31_18) 32 t32_19) 33 t33_20) 34 t24_14) 9 t24_14) H)
  (fun Q31 => Q31 .normal (upd (upd (upd (upd (upd (upd (upd (upd (upd (upd (upd (upd (upd (upd e13 22 (e13 8)) 9 (e13 8)) 23 (e13 8)) 24 t24_14) 10 t24_14) 25 t24_14)
  26 (e13 2)) 27 t27_15) 28 t27_15) 29 t29_16) 30 t30_17) 31 t31_18) 32 t32_19) 33 t33_20) H) Q21) Q11) fun Q12 => cnd t21_10 (fun Q32 => Q32 (.exit 0) (upd (upd (upd
  (upd (upd (upd (upd (upd (upd (upd (upd e 12 (e 7)) 13 t13_5) 14 t14_6) 8 t14_6) 15 t14_6) 16 (e 2)) 17 t17_7) 18 t17_7) 19 t19_8) 20 t20_9) 21 t21_10) H) (fun Q33 =>
  Q33 .normal (upd (upd (upd (upd (upd (upd (upd (upd (upd (upd (upd e 12 (e 7)) 13 t13_5) 14 t14_6) 8 t14_6) 15 t14_6) 16 (e 2)) 17 t17_7) 18 t17_7) 19 t19_8) 20 t20_9)
  21 t21_10) H) Q12
theorem h131_0 (S : Sys) (e : Fe) (H : Heap) (Q : Kx) : wpC S b131_0 e H Q = s131_0 S e H Q := by kernel_rfl
theorem l131_0 (S : Sys) {Q : Kx} (I : Nat → Fe → Heap → Prop) (d : Nat) {e0 : Fe} {H : Heap} (h0 : I d e0 H) (hr : ∀ (d : Nat) (e : Fe) (H : Heap), I d e H → s131_0 S e
  H (sq (fun e' H' => ∃ d', d' < d ∧ I d' e' H') Q)) : WL S b131_0 e0 H Q := WL_inv I d h0 fun d e H hi => (h131_0 S e H _).mpr (hr d e H hi)
theorem u131_0 (S : Sys) {Q : Kx} {e : Fe} {H : Heap} (h : s131_0 S e H (sq (fun e' H' => WL S b131_0 e' H' Q) Q)) : WL S b131_0 e H Q := WL_once ((h131_0 S e H _).mpr h)
def s131 (S : Sys) (a0 a1 a2 : Value) (H : Heap) (R : Kv) : Prop := jn (sq (fun e2 H => run S (.bin .gtr (.c (e2 7)) (.c (e2 1))) [] H fun t47_3 H => R t47_3 H) (fn [(.t
  6)] R)) fun Q1 => jn (blk 0 Q1) fun Q4 => WL S b131_0 (upd (upd (upd (Env.get [a0, a1, a2]) 6 (.bool false)) 11 a1) 7 a1) H Q4
theorem h131 (S : Sys) (a0 a1 a2 : Value) (H : Heap) (R : Kv) : wpC S k131.body (Env.get [a0, a1, a2]) H (fn [(.t 6)] R) = s131 S a0 a1 a2 H R := by kernel_rfl
theorem w131 {S : Sys} (hR : S.R 131 = none) (hF : S.F 131 = some k131) (a0 a1 a2 : Value) {H : Heap} {R : Kv} (h : s131 S a0 a1 a2 H R) : Wf S 131 [a0, a1, a2] H R :=
  Wf_sh hR hF ((h131 S a0 a1 a2 H R).mpr h)
def b132_0 : KCode := (.block 1 (.seq (.reg [(.op (some 5) none (.mv (.t 1))), (.op (some 6) none (.bin .sub (.t 5) (.c (.int .i64 1)))), (.op (some 7) none (.bin .quo
  (.t 6) (.c (.int .i64 2)))), (.op (some 4) none (.mv (.t 7)))]) (.seq (.seq (.reg [(.op (some 8) none (.mv (.t 4))), (.op (some 9) none (.mv (.t 1))), (.op (some 10)
  none (.bin .eql (.t 8) (.t 9))), (.op (some 11) none (.mv (.t 10))), (.op (some 12) (some (11, false)) (.mv (.t 0))), (.op (some 13) (some (11, false)) (.mv (.t 1))),
  (.op (some 14) (some (11, false)) (.mv (.t 4))), (.op (some 15) (some (11, false)) (.inv (.t 12) "Less" [(.t 13), (.t 14)])), (.op (some 16) (some (11, false)) (.un
  .not (.t 15))), (.op (some 17) none (.pick (.t 11) (.c (.bool true)) (.t 16)))]) (.cond (.t 17) (.exit 0) .skip)) (.seq (.reg [(.op (some 18) none (.mv (.t 0))), (.op
  (some 19) none (.mv (.t 4))), (.op (some 20) none (.mv (.t 1))), (.op (some 21) none (.inv (.t 18) "Swap" [(.t 19), (.t 20)]))]) (.reg [(.op (some 22) none (.mv (.t
  4))), (.op (some 1) none (.mv (.t 22)))])))))
def s132_0 (S : Sys) (e : Fe) (H : Heap) (Q : Kx) : Prop := run S (.bin .sub (.c (e 1)) (.c (.int .i64 1))) [] H fun t6_2 H => run S (.bin .quo (.c t6_2) (.c (.int .i64
  2))) [] H fun t7_3 H => run S (.bin .eql (.c t7_3) (.c (e 1))) [] H fun t10_4 H => gd t10_4 false (run S (.mv (.c (e 0))) [] H) H fun t12_5 H => gd t10_4 false (run S
  (.mv (.c (e 1))) [] H) H fun t13_6 H => gd t10_4 false (run S (.mv (.c t7_3)) [] H) H fun t14_7 H => gd t10_4 false (run S (.inv (.c t12_5) "Less" [(.c t13_6), (.c
  t14_7)]) [] H) H fun t15_8 H => gd t10_4 false (run S (.un .not (.c t15_8)) [] H) H fun t16_9 H => run S (.pick (.c t10_4) (.c (.bool true)) (.c t16_9)) [] H fun
  t17_10 H => jn (blk 1 Q) fun Q11 => jn (sq (fun e13 H => run S (.inv (.c (e13 0)) "Swap" [(.c (e13 4)), (.c (e13 1))]) [] H fun t21_14 H => Q11 .normal (upd (upd (upd
  (upd (upd (upd e13 18 (e13 0)) 19 (e13 4)) 20 (e13 1)) 21 t21_14) 22 (e13 4)) 1 (e13 4)) H) Q11) fun Q12 => cnd t17_10 (fun Q15 => Q15 (.exit 0) (upd (upd (upd (upd
  (upd (upd (upd (upd (upd (upd (upd (upd (upd (upd e 5 (e 1)) 6 t6_2) 7 t7_3) 4 t7_3) 8 t7_3) 9 (e 1)) 10 t10_4) 11 t10_4) 12 t12_5) 13 t13_6) 14 t14_7) 15 t15_8) 16
  t16_9) 17 t17_10) H) (fun Q16 => Q16 .normal (upd (upd (upd (upd (upd (upd (upd (upd (upd (upd (upd (upd (upd (upd e 5 (e 1)) 6 t6_2) 7 t7_3) 4 t7_3) 8 t7_3) 9 (e 1))
  10 t10_4) 11 t10_4) 12 t12_5) 13 t13_6) 14 t14_7) 15 t15_8) 16 t16_9) 17 t17_10) H) Q12
theorem h132_0 (S : Sys) (e : Fe) (H : Heap) (Q : Kx) : wpC S b132_0 e H Q = s132_0 S e H Q := by kernel_rfl
theorem l132_0 (S : Sys) {Q : Kx} (I : Nat → Fe → Heap → Prop) (d : Nat) {e0 : Fe} {H : Heap} (h0 : I d e0 H) (hr : ∀ (d : Nat) (e : Fe) (H : Heap), I d e H → s132_0 S e
  H (sq (fun e' H' => ∃ d', d' < d ∧ I d' e' H') Q)) : WL S b132_0 e0 H Q := WL_inv I d h0 fun d e H hi => (h132_0 S e H _).mpr (hr d e H hi)
theorem u132_0 (S : Sys) {Q : Kx} {e : Fe} {H : Heap} (h : s132_0 S e H (sq (fun e' H' => WL S b132_0 e' H' Q) Q)) : WL S b132_0 e H Q := WL_once ((h132_0 S e H _).mpr h)
def s132 (S : Sys) (a0 a1 : Value) (H : Heap) (R : Kv) : Prop := jn (blk 0 (fn [] R)) fun Q1 => WL S b132_0 (Env.get [a0, a1]) H Q1
theorem h132 (S : Sys) (a0 a1 : Value) (H : Heap) (R : Kv) : wpC S k132.body (Env.get [a0, a1]) H (fn [] R) = s132 S a0 a1 H R := by kernel_rfl
theorem w132 {S : Sys} (hR : S.R 132 = none) (hF : S.F 132 = some k132) (a0 a1 : Value) {H : Heap} {R : Kv} (h : s132 S a0 a1 H R) : Wf S 132 [a0, a1] H R := Wf_sh hR hF
  ((h132 S a0 a1 H R).mpr h)
def s135 (S : Sys) (a0 : Value) (H : Heap) (R : Kv) : Prop := run S (.bin .geq (.c a0) (.c (.int .u32 65536))) [] H fun t4_1 H => jn (sq (fun e3 H => run S (.bin .geq
  (.c (e3 0)) (.c (.int .u32 256))) [] H fun t8_4 H => jn (sq (fun e6 H => run S (.cvt .u8 (.c (e6 0))) [] H fun t15_7 H => run S (.idS (.c (.string (bs [0, 1, 2, 2, 3,
  3, 3, 3, 4, 4, 4, 4, 4, 4, 4, 4, 5, 5, 5, 5, 5, 5, 5, 5, 5, 5, 5, 5, 5, 5, 5, 5, 6, 6, 6, 6, 6, 6, 6, 6, 6, 6, 6, 6, 6, 6, 6, 6, 6, 6, 6, 6, 6, 6, 6, 6, 6, 6, 6, 6, 6,
  6, 6, 6, 7, 7, 7, 7, 7, 7, 7, 7, 7, 7, 7, 7, 7, 7, 7, 7, 7, 7, 7, 7, 7, 7, 7, 7, 7, 7, 7, 7, 7, 7, 7, 7, 7, 7, 7, 7, 7, 7, 7, 7, 7, 7, 7, 7, 7, 7, 7, 7, 7, 7, 7, 7, 7,
  7, 7, 7, 7, 7, 7, 7, 7, 7, 7, 7, 8, 8, 8, 8, 8, 8, 8, 8, 8, 8, 8, 8, 8, 8, 8, 8, 8, 8, 8, 8, 8, 8, 8, 8, 8, 8, 8, 8, 8, 8, 8, 8, 8, 8, 8, 8, 8, 8, 8, 8, 8, 8, 8, 8, 8,
  8, 8, 8, 8, 8, 8, 8, 8, 8, 8, 8, 8, 8, 8, 8, 8, 8, 8, 8, 8, 8, 8, 8, 8, 8, 8, 8, 8, 8, 8, 8, 8, 8, 8, 8, 8, 8, 8, 8, 8, 8, 8, 8, 8, 8, 8, 8, 8, 8, 8, 8, 8, 8, 8, 8, 8,
  8, 8, 8, 8, 8, 8, 8, 8, 8, 8, 8, 8, 8, 8, 8, 8, 8, 8, 8, 8, 8, 8, 8, 8, 8, 8, 8]))) (.c t15_7)) [] H fun t16_8 H => run S (.cvt .i64 (.c t16_8)) [] H fun t17_9 H =>
  run S (.bin .add (.c (e6 2)) (.c t17_9)) [] H fun t18_10 H => R t18_10 H) (fn [(.t 2)] R)) fun Q5 => cnd t8_4 (fun Q11 => run S (.bin .shr (.c (e3 0)) (.c (.int .u64
  8))) [] H fun t10_13 H => run S (.bin .add (.c (e3 2)) (.c (.int .i64 8))) [] H fun t12_14 H => Q11 .normal (upd (upd (upd (upd (upd (upd (upd (upd e3 7 (e3 0)) 8
  t8_4) 9 (e3 0)) 10 t10_13) 0 t10_13) 11 (e3 2)) 12 t12_14) 2 t12_14) H) (fun Q12 => Q12 .normal (upd (upd e3 7 (e3 0)) 8 t8_4) H) Q5) (fn [(.t 2)] R)) fun Q2 => cnd
  t4_1 (fun Q15 => run S (.bin .shr (.c a0) (.c (.int .u64 16))) [] H fun t6_17 H => Q15 .normal (upd (upd (upd (upd (upd (upd (upd (Env.get [a0]) 2 (.int .i64 0)) 3 a0)
  4 t4_1) 5 a0) 6 t6_17) 0 t6_17) 2 (.int .i64 16)) H) (fun Q16 => Q16 .normal (upd (upd (upd (Env.get [a0]) 2 (.int .i64 0)) 3 a0) 4 t4_1) H) Q2
theorem h135 (S : Sys) (a0 : Value) (H : Heap) (R : Kv) : wpC S k135.body (Env.get [a0]) H (fn [(.t 2)] R) = s135 S a0 H R := by kernel_rfl
theorem w135 {S : Sys} (hR : S.R 135 = none) (hF : S.F 135 = some k135) (a0 : Value) {H : Heap} {R : Kv} (h : s135 S a0 H R) : Wf S 135 [a0] H R := Wf_sh hR hF ((h135 S
  a0 H R).mpr h)
def s137 (S : Sys) (a0 : Value) (H : Heap) (R : Kv) : Prop := run S (.bin .neq (.c a0) (.c a0)) [] H fun t5_1 H => R t5_1 H
theorem h137 (S : Sys) (a0 : Value) (H : Heap) (R : Kv) : wpC S k137.body (Env.get [a0]) H (fn [(.t 2)] R) = s137 S a0 H R := by kernel_rfl
theorem w137 {S : Sys} (hR : S.R 137 = none) (hF : S.F 137 = some k137) (a0 : Value) {H : Heap} {R : Kv} (h : s137 S a0 H R) : Wf S 137 [a0] H R := Wf_sh hR hF ((h137 S
  a0 H R).mpr h)
def b167_0 : KCode := (.seq (.reg [(.op (some 9) none (.bin .lss (.t 8) (.t 7)))]) (.seq (.cond (.t 9) .skip (.exit 0)) (.seq (.block 1 (.seq (.reg [(.op (some 10) none
  (.iad 1 (.t 6) (.t 8))), (.op (some 11) none (.ld (.t 10))), (.op (some 5) none (.mv (.t 11)))]) (.seq (.reg [(.op (some 12) none (.mv (.t 5))), (.op (some 13) none
  (.mv (.t 3))), (.op (some 14) none (.bin .neq (.t 12) (.t 13)))]) (.cond (.t 14) (.seq (.reg [(.op (some 15) none (.mv (.t 5))), (.op (some 2) none (.mv (.t 15)))])
  .ret) .skip)))) (.reg [(.op (some 16) none (.bin .add (.t 8) (.c (.int .i64 1)))), (.op (some 8) none (.mv (.t 16)))]))))
def s167_0 (S : Sys) (e : Fe) (H : Heap) (Q : Kx) : Prop := run S (.bin .lss (.c (e 8)) (.c (e 7))) [] H fun t9_5 H => jn (sq (fun e7 H => jn (sq (fun e9 H => run S
  (.bin .add (.c (e9 8)) (.c (.int .i64 1))) [] H fun t16_10 H => Q .normal (upd (upd e9 16 t16_10) 8 t16_10) H) Q) fun Q8 => run S (.iad 1 (.c (e7 6)) (.c (e7 8))) [] H
  fun t10_11 H => run S (.ld (.c t10_11)) [] H fun t11_12 H => run S (.bin .neq (.c t11_12) (.c (e7 3))) [] H fun t14_13 H => jn (blk 1 Q8) fun Q14 => cnd t14_13 (fun
  Q15 => Q15 .ret (upd (upd (upd (upd (upd (upd (upd (upd e7 10 t10_11) 11 t11_12) 5 t11_12) 12 t11_12) 13 (e7 3)) 14 t14_13) 15 t11_12) 2 t11_12) H) (fun Q16 => Q16
  .normal (upd (upd (upd (upd (upd (upd e7 10 t10_11) 11 t11_12) 5 t11_12) 12 t11_12) 13 (e7 3)) 14 t14_13) H) Q14) Q) fun Q6 => cnd t9_5 (fun Q17 => Q17 .normal (upd e
  9 t9_5) H) (fun Q18 => Q18 (.exit 0) (upd e 9 t9_5) H) Q6
theorem h167_0 (S : Sys) (e : Fe) (H : Heap) (Q : Kx) : wpC S b167_0 e H Q = s167_0 S e H Q := by kernel_rfl
theorem l167_0 (S : Sys) {Q : Kx} (I : Nat → Fe → Heap → Prop) (d : Nat) {e0 : Fe} {H : Heap} (h0 : I d e0 H) (hr : ∀ (d : Nat) (e : Fe) (H : Heap), I d e H → s167_0 S e
  H (sq (fun e' H' => ∃ d', d' < d ∧ I d' e' H') Q)) : WL S b167_0 e0 H Q := WL_inv I d h0 fun d e H hi => (h167_0 S e H _).mpr (hr d e H hi)
theorem u167_0 (S : Sys) {Q : Kx} {e : Fe} {H : Heap} (h : s167_0 S e H (sq (fun e' H' => WL S b167_0 e' H' Q) Q)) : WL S b167_0 e H Q := WL_once ((h167_0 S e H _).mpr h)
def s167 (S : Sys) (a0 : Value) (H : Heap) (R : Kv) : Prop := run S (.lenL (.c a0)) [] H fun t7_1 H => jn (sq (fun e3 H => R (e3 3) H) (fn [(.t 2)] R)) fun Q2 => jn (blk
  0 Q2) fun Q4 => WL S b167_0 (upd (upd (upd (upd (upd (Env.get [a0]) 2 (.int .i64 0)) 3 (.int .i64 0)) 6 a0) 7 t7_1) 8 (.int .i64 0)) H Q4
theorem h167 (S : Sys) (a0 : Value) (H : Heap) (R : Kv) : wpC S k167.body (Env.get [a0]) H (fn [(.t 2)] R) = s167 S a0 H R := by kernel_rfl
theorem w167 {S : Sys} (hR : S.R 167 = none) (hF : S.F 167 = some k167) (a0 : Value) {H : Heap} {R : Kv} (h : s167 S a0 H R) : Wf S 167 [a0] H R := Wf_sh hR hF ((h167 S
  a0 H R).mpr h)
def s170 (S : Sys) (a0 a1 a2 : Value) (H : Heap) (R : Kv) : Prop := run S (.iad 1 (.c a0) (.c a1)) [] H fun t9_1 H => run S (.ld (.c t9_1)) [] H fun t10_2 H => run S
  (.nck (.c t10_2)) [] H fun t11_3 H => run S (.fad 0 (.c t11_3)) [] H fun t12_4 H => run S (.ld (.c t12_4)) [] H fun t13_5 H => run S (.iad 1 (.c a0) (.c a2)) [] H fun
  t16_6 H => run S (.ld (.c t16_6)) [] H fun t17_7 H => run S (.nck (.c t17_7)) [] H fun t18_8 H => run S (.fad 0 (.c t18_8)) [] H fun t19_9 H => run S (.ld (.c t19_9))
  [] H fun t20_10 H => run S (.iad 1 (.c a0) (.c a1)) [] H fun t24_11 H => run S (.ld (.c t24_11)) [] H fun t25_12 H => run S (.nck (.c t25_12)) [] H fun t26_13 H => run
  S (.fad 1 (.c t26_13)) [] H fun t27_14 H => run S (.ld (.c t27_14)) [] H fun t28_15 H => run S (.iad 1 (.c a0) (.c a2)) [] H fun t31_16 H => run S (.ld (.c t31_16)) []
  H fun t32_17 H => run S (.nck (.c t32_17)) [] H fun t33_18 H => run S (.fad 1 (.c t33_18)) [] H fun t34_19 H => run S (.ld (.c t34_19)) [] H fun t35_20 H => run S
  (.call 124 [(.c t13_5), (.c t20_10)]) [] H fun t21_21 H => ck (kop (.ld (.c t24_11)) [] H) t25_12 (ck (kop (.ld (.c t27_14)) [] H) t28_15 (ck (kop (.ld (.c t31_16)) []
  H) t32_17 (ck (kop (.ld (.c t34_19)) [] H) t35_20 (run S (.call 124 [(.c t28_15), (.c t35_20)]) [] H fun t36_22 H => run S (.bsl 3 2 [(.int .i64 0), (.int .i64 0)]
  [(0, (1, (.c t21_21))), (1, (1, (.c t36_22)))]) [] H fun t37_23 H => run S (.call 167 [(.c t37_23)]) [] H fun t38_24 H => run S (.bin .lss (.c t38_24) (.c (.int .i64
  0))) [] H fun t39_25 H => R t39_25 H))))
theorem h170 (S : Sys) (a0 a1 a2 : Value) (H : Heap) (R : Kv) : wpC S k170.body (Env.get [a0, a1, a2]) H (fn [(.t 6)] R) = s170 S a0 a1 a2 H R := by kernel_rfl
theorem w170 {S : Sys} (hR : S.R 170 = none) (hF : S.F 170 = some k170) (a0 a1 a2 : Value) {H : Heap} {R : Kv} (h : s170 S a0 a1 a2 H R) : Wf S 170 [a0, a1, a2] H R :=
  Wf_sh hR hF ((h170 S a0 a1 a2 H R).mpr h)
def s171 (S : Sys) (a0 : Value) (H : Heap) (R : Kv) : Prop := run S (.nck (.c a0)) [] H fun t6_1 H => run S (.ld (.c t6_1)) [] H fun t7_2 H => run S (.lenL (.c t7_2)) []
  H fun t8_3 H => run S (.bin .sub (.c t8_3) (.c (.int .i64 1))) [] H fun t9_4 H => run S (.nck (.c a0)) [] H fun t11_5 H => run S (.ld (.c t11_5)) [] H fun t12_6 H =>
  run S (.iad 1 (.c t12_6) (.c t9_4)) [] H fun t14_7 H => run S (.ld (.c t14_7)) [] H fun t15_8 H => run S (.nck (.c a0)) [] H fun t18_9 H => run S (.ld (.c t18_9)) [] H
  fun t19_10 H => run S (.slc 120 1 (.c t19_10) none (some (.c t9_4))) [] H fun t21_11 H => run S (.nck (.c a0)) [] H fun t22_12 H => run S (.st (.c t22_12) (.c t21_11))
  [] H fun _ H => run S (.mki 120 (.c t15_8)) [] H fun t24_13 H => R t24_13 H
theorem h171 (S : Sys) (a0 : Value) (H : Heap) (R : Kv) : wpC S k171.body (Env.get [a0]) H (fn [(.t 2)] R) = s171 S a0 H R := by kernel_rfl
theorem w171 {S : Sys} (hR : S.R 171 = none) (hF : S.F 171 = some k171) (a0 : Value) {H : Heap} {R : Kv} (h : s171 S a0 H R) : Wf S 171 [a0] H R := Wf_sh hR hF ((h171 S
  a0 H R).mpr h)
def s172 (S : Sys) (a0 a1 : Value) (H : Heap) (R : Kv) : Prop := run S (.tas 120 (.pointer none) true (.c a1)) [] H fun t8_1 H => run S (.xt (.c t8_1) 0) [] H fun t9_2 H
  => run S (.xt (.c t8_1) 1) [] H fun t10_3 H => cnd t10_3 (fun Q4 => run S (.nck (.c a0)) [] H fun t14_6 H => run S (.ld (.c t14_6)) [] H fun t15_7 H => run S (.bsl 120
  1 [(.pointer none)] [(0, (1, (.c t9_2)))]) [] H fun t17_8 H => run S (.app 120 1 8 (.c t15_7) (.c t17_8)) [] H fun t18_9 H => run S (.nck (.c a0)) [] H fun t19_10 H =>
  run S (.st (.c t19_10) (.c t18_9)) [] H fun _ H => Q4 .normal (upd (upd (upd (upd (upd (upd (upd (upd (upd (upd (upd (upd (upd (upd (upd (upd (Env.get [a0, a1]) 7 a1)
  8 t8_1) 6 t8_1) 9 t9_2) 10 t10_3) 4 t9_2) 5 t10_3) 11 t10_3) 12 a0) 13 a0) 14 t14_6) 15 t15_7) 16 t9_2) 17 t17_8) 18 t18_9) 19 t19_10) H) (fun Q5 => Q5 .normal (upd
  (upd (upd (upd (upd (upd (upd (upd (Env.get [a0, a1]) 7 a1) 8 t8_1) 6 t8_1) 9 t9_2) 10 t10_3) 4 t9_2) 5 t10_3) 11 t10_3) H) (fn [] R)
theorem h172 (S : Sys) (a0 a1 : Value) (H : Heap) (R : Kv) : wpC S k172.body (Env.get [a0, a1]) H (fn [] R) = s172 S a0 a1 H R := by kernel_rfl
theorem w172 {S : Sys} (hR : S.R 172 = none) (hF : S.F 172 = some k172) (a0 a1 : Value) {H : Heap} {R : Kv} (h : s172 S a0 a1 H R) : Wf S 172 [a0, a1] H R := Wf_sh hR hF
  ((h172 S a0 a1 H R).mpr h)
def s173 (S : Sys) (a0 a1 a2 : Value) (H : Heap) (R : Kv) : Prop := run S (.iad 1 (.c a0) (.c a2)) [] H fun t12_1 H => run S (.ld (.c t12_1)) [] H fun t13_2 H => run S
  (.iad 1 (.c a0) (.c a1)) [] H fun t16_3 H => run S (.ld (.c t16_3)) [] H fun t17_4 H => run S (.iad 1 (.c a0) (.c a1)) [] H fun t18_5 H => run S (.st (.c t18_5) (.c
  t13_2)) [] H fun _ H => run S (.iad 1 (.c a0) (.c a2)) [] H fun t19_6 H => run S (.st (.c t19_6) (.c t17_4)) [] H fun _ H => R (tup []) H
theorem h173 (S : Sys) (a0 a1 a2 : Value) (H : Heap) (R : Kv) : wpC S k173.body (Env.get [a0, a1, a2]) H (fn [] R) = s173 S a0 a1 a2 H R := by kernel_rfl
theorem w173 {S : Sys} (hR : S.R 173 = none) (hF : S.F 173 = some k173) (a0 a1 a2 : Value) {H : Heap} {R : Kv} (h : s173 S a0 a1 a2 H R) : Wf S 173 [a0, a1, a2] H R :=
  Wf_sh hR hF ((h173 S a0 a1 a2 H R).mpr h)
end Go.Proofs.Ytlboioplemlneaa.K
