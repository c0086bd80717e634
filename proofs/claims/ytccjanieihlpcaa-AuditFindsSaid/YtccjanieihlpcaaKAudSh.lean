/- The functions as nested words with named values, each held against its code by the kernel. Printed by a program of this work (sh.py). -/
import Derived.Test.YtccjanieihlpcaaKAudCode
set_option maxRecDepth 100000
set_option linter.unusedVariables false
namespace Go.Proofs.Ytccjanieihlpcaa.K
open Go Go.Proofs
def b3_0 : KCode := (.seq (.reg [(.op (some 19) none (.bin .lss (.t 18) (.t 17)))]) (.seq (.cond (.t 19) .skip (.exit 0)) (.seq (.block 1 (.seq (.reg [(.op (some 20)
  none (.mv (.t 18))), (.op (some 5) none (.mv (.t 20)))]) (.seq (.reg [(.op (some 21) none (.mv (.t 0))), (.op (some 22) none (.mv (.t 5))), (.op (some 23) none (.call
  14 [(.t 21), (.t 22)])), (.op (some 6) none (.mv (.t 23)))]) (.seq (.seq (.reg [(.op (some 24) none (.mv (.t 6))), (.op (some 25) none (.bin .eql (.t 24) (.c (.int
  .i64 0))))]) (.cond (.t 25) (.exit 1) .skip)) (.seq (.seq (.reg [(.op (some 26) none (.mv (.t 4))), (.op (some 27) none (.mv (.t 3))), (.op (some 28) none (.lenL (.t
  27))), (.op (some 29) none (.bin .geq (.t 26) (.t 28))), (.op (some 30) none (.mv (.t 29))), (.op (some 31) (some (30, false)) (.mv (.t 3))), (.op (some 32) (some (30,
  false)) (.mv (.t 4))), (.op (some 33) (some (30, false)) (.iad 2 (.t 31) (.t 32))), (.op (some 34) (some (30, false)) (.ldn 2 (.t 33))), (.op (some 35) (some (30,
  false)) (.mv (.t 5))), (.op (some 36) (some (30, false)) (.mv (.t 6))), (.op (some 37) (some (30, false)) (.build [(.int .i64 0), (.int .i64 0)] [(0, (1, (.t 35))),
  (1, (1, (.t 36)))])), (.op (some 38) (some (30, false)) (.eqv (.agg [.int, .int]) true (.t 34) (.t 37))), (.op (some 39) none (.pick (.t 30) (.c (.bool true)) (.t
  38)))]) (.cond (.t 39) (.seq (.reg [(.op (some 2) none (.mv (.c (.bool false))))]) .ret) .skip)) (.reg [(.op (some 40) none (.mv (.t 4))), (.op (some 41) none (.bin
  .add (.t 40) (.c (.int .i64 1)))), (.op (some 4) none (.mv (.t 41)))])))))) (.reg [(.op (some 42) none (.bin .add (.t 18) (.c (.int .i64 1)))), (.op (some 18) none
  (.mv (.t 42)))]))))
def s3_0 (S : Sys) (e : Fe) (H : Heap) (Q : Kx) : Prop := run S (.bin .lss (.c (e 18)) (.c (e 17))) [] H fun t19_39 H => jn (sq (fun e41 H => jn (sq (fun e43 H => run S
  (.bin .add (.c (e43 18)) (.c (.int .i64 1))) [] H fun t42_44 H => Q .normal (upd (upd e43 42 t42_44) 18 t42_44) H) Q) fun Q42 => run S (.call 14 [(.c (e41 0)), (.c
  (e41 18))]) [] H fun t23_45 H => run S (.bin .eql (.c t23_45) (.c (.int .i64 0))) [] H fun t25_46 H => jn (blk 1 Q42) fun Q47 => jn (sq (fun e49 H => run S (.lenL (.c
  (e49 3))) [] H fun t28_50 H => run S (.bin .geq (.c (e49 4)) (.c t28_50)) [] H fun t29_51 H => gd t29_51 false (run S (.mv (.c (e49 3))) [] H) H fun t31_52 H => gd
  t29_51 false (run S (.mv (.c (e49 4))) [] H) H fun t32_53 H => gd t29_51 false (run S (.iad 2 (.c t31_52) (.c t32_53)) [] H) H fun t33_54 H => gd t29_51 false (run S
  (.ldn 2 (.c t33_54)) [] H) H fun t34_55 H => gd t29_51 false (run S (.mv (.c (e49 5))) [] H) H fun t35_56 H => gd t29_51 false (run S (.mv (.c (e49 6))) [] H) H fun
  t36_57 H => gd t29_51 false (run S (.build [(.int .i64 0), (.int .i64 0)] [(0, (1, (.c t35_56))), (1, (1, (.c t36_57)))]) [] H) H fun t37_58 H => gd t29_51 false (run
  S (.eqv (.agg [.int, .int]) true (.c t34_55) (.c t37_58)) [] H) H fun t38_59 H => run S (.pick (.c t29_51) (.c (.bool true)) (.c t38_59)) [] H fun t39_60 H => jn (sq
  (fun e62 H => run S (.bin .add (.c (e62 4)) (.c (.int .i64 1))) [] H fun t41_63 H => Q47 .normal (upd (upd (upd e62 40 (e62 4)) 41 t41_63) 4 t41_63) H) Q47) fun Q61 =>
  cnd t39_60 (fun Q64 => Q64 .ret (upd (upd (upd (upd (upd (upd (upd (upd (upd (upd (upd (upd (upd (upd (upd e49 26 (e49 4)) 27 (e49 3)) 28 t28_50) 29 t29_51) 30 t29_51)
  31 t31_52) 32 t32_53) 33 t33_54) 34 t34_55) 35 t35_56) 36 t36_57) 37 t37_58) 38 t38_59) 39 t39_60) 2 (.bool false)) H) (fun Q65 => Q65 .normal (upd (upd (upd (upd (upd
  (upd (upd (upd (upd (upd (upd (upd (upd (upd e49 26 (e49 4)) 27 (e49 3)) 28 t28_50) 29 t29_51) 30 t29_51) 31 t31_52) 32 t32_53) 33 t33_54) 34 t34_55) 35 t35_56) 36
  t36_57) 37 t37_58) 38 t38_59) 39 t39_60) H) Q61) Q47) fun Q48 => cnd t25_46 (fun Q66 => Q66 (.exit 1) (upd (upd (upd (upd (upd (upd (upd (upd e41 20 (e41 18)) 5 (e41
  18)) 21 (e41 0)) 22 (e41 18)) 23 t23_45) 6 t23_45) 24 t23_45) 25 t25_46) H) (fun Q67 => Q67 .normal (upd (upd (upd (upd (upd (upd (upd (upd e41 20 (e41 18)) 5 (e41
  18)) 21 (e41 0)) 22 (e41 18)) 23 t23_45) 6 t23_45) 24 t23_45) 25 t25_46) H) Q48) Q) fun Q40 => cnd t19_39 (fun Q68 => Q68 .normal (upd e 19 t19_39) H) (fun Q69 => Q69
  (.exit 0) (upd e 19 t19_39) H) Q40
theorem h3_0 (S : Sys) (e : Fe) (H : Heap) (Q : Kx) : wpC S b3_0 e H Q = s3_0 S e H Q := by kernel_rfl
theorem l3_0 (S : Sys) {Q : Kx} (I : Nat → Fe → Heap → Prop) (d : Nat) {e0 : Fe} {H : Heap} (h0 : I d e0 H) (hr : ∀ (d : Nat) (e : Fe) (H : Heap), I d e H → s3_0 S e H
  (sq (fun e' H' => ∃ d', d' < d ∧ I d' e' H') Q)) : WL S b3_0 e0 H Q := WL_inv I d h0 fun d e H hi => (h3_0 S e H _).mpr (hr d e H hi)
theorem u3_0 (S : Sys) {Q : Kx} {e : Fe} {H : Heap} (h : s3_0 S e H (sq (fun e' H' => WL S b3_0 e' H' Q) Q)) : WL S b3_0 e H Q := WL_once ((h3_0 S e H _).mpr h)
def s3 (S : Sys) (a0 : Value) (H : Heap) (R : Kv) : Prop := run S (.call 12 []) [] H fun t9_1 H => run S (.un .not (.c t9_1)) [] H fun t10_2 H => jn (sq (fun e4 H => run
  S (.lenL (.c (e4 0))) [] H fun t12_5 H => run S (.bin .gtr (.c t12_5) (.c (.int .i64 60))) [] H fun t13_6 H => jn (sq (fun e8 H => run S (.call 13 [(.c (e8 0))]) [] H
  fun t15_9 H => run S (.lenL (.c (e8 0))) [] H fun t17_10 H => jn (sq (fun e12 H => run S (.call 15 [(.c (e12 0))]) [] H fun t45_13 H => run S (.xt (.c t45_13) 0) [] H
  fun t46_14 H => run S (.xt (.c t45_13) 1) [] H fun t47_15 H => run S (.alloc 28 [(.int .i64 0), (.int .i64 0)]) [] H fun t7_16 H => run S (.stn 2 (.c t7_16) (.c
  t46_14)) [] H fun _ H => run S (.lenL (.c (e12 3))) [] H fun t50_17 H => run S (.bin .eql (.c (e12 4)) (.c t50_17)) [] H fun t51_18 H => gd t51_18 true (run S (.mv (.c
  t47_15)) [] H) H fun t53_19 H => gd t51_18 true (run S (.mv (.c (e12 4))) [] H) H fun t54_20 H => gd t51_18 true (run S (.bin .gtr (.c t54_20) (.c (.int .i64 0))) []
  H) H fun t55_21 H => gd t51_18 true (run S (.eqv (.s .bool) false (.c t53_19) (.c t55_21)) [] H) H fun t56_22 H => run S (.pick (.c t51_18) (.c t56_22) (.c (.bool
  false))) [] H fun t57_23 H => gd t57_23 true (run S (.mv (.c t47_15)) [] H) H fun t59_24 H => gd t57_23 true (run S (.un .not (.c t59_24)) [] H) H fun t60_25 H => gd
  t57_23 true (run S (.mv (.c t60_25)) [] H) H fun t61_26 H => gd t61_26 false (run S (.ldn 2 (.c t7_16)) [] H) H fun t62_27 H => gd t61_26 false (run S (.mv (.c (e12
  3))) [] H) H fun t63_28 H => gd t61_26 false (run S (.iad 2 (.c t63_28) (.c (.int .i64 0))) [] H) H fun t64_29 H => gd t61_26 false (run S (.ldn 2 (.c t64_29)) [] H) H
  fun t65_30 H => gd t61_26 false (run S (.eqv (.agg [.int, .int]) false (.c t62_27) (.c t65_30)) [] H) H fun t66_31 H => gd t57_23 true (run S (.pick (.c t61_26) (.c
  (.bool true)) (.c t66_31)) [] H) H fun t67_32 H => run S (.pick (.c t57_23) (.c t67_32) (.c (.bool false))) [] H fun t68_33 H => R t68_33 H) (fn [(.t 2)] R)) fun Q11
  => jn (blk 0 Q11) fun Q34 => WL S b3_0 (upd (upd (upd (upd (upd (upd (upd e8 14 (e8 0)) 15 t15_9) 3 t15_9) 4 (.int .i64 0)) 16 (e8 0)) 17 t17_10) 18 (.int .i64 0)) H
  Q34) (fn [(.t 2)] R)) fun Q7 => cnd t13_6 (fun Q35 => Q35 .ret (upd (upd (upd (upd e4 11 (e4 0)) 12 t12_5) 13 t13_6) 2 (.bool true)) H) (fun Q36 => Q36 .normal (upd
  (upd (upd e4 11 (e4 0)) 12 t12_5) 13 t13_6) H) Q7) (fn [(.t 2)] R)) fun Q3 => cnd t10_2 (fun Q37 => Q37 .ret (upd (upd (upd (upd (Env.get [a0]) 2 (.bool false)) 9
  t9_1) 10 t10_2) 2 (.bool false)) H) (fun Q38 => Q38 .normal (upd (upd (upd (Env.get [a0]) 2 (.bool false)) 9 t9_1) 10 t10_2) H) Q3
theorem h3 (S : Sys) (a0 : Value) (H : Heap) (R : Kv) : wpC S k3.body (Env.get [a0]) H (fn [(.t 2)] R) = s3 S a0 H R := by kernel_rfl
theorem w3 {S : Sys} (hR : S.R 3 = none) (hF : S.F 3 = some k3) (a0 : Value) {H : Heap} {R : Kv} (h : s3 S a0 H R) : Wf S 3 [a0] H R := Wf_sh hR hF ((h3 S a0 H R).mpr h)
def b13_0 : KCode := (.seq (.reg [(.op (some 12) none (.bin .lss (.t 11) (.t 10)))]) (.seq (.cond (.t 12) .skip (.exit 0)) (.seq (.block 1 (.seq (.reg [(.op (some 13)
  none (.mv (.t 11))), (.op (some 14) none (.iad 5 (.t 9) (.t 11))), (.op (some 15) none (.ldn 5 (.t 14))), (.op (some 6) none (.alloc 74 [(.int .i64 0), (.int .i64 0),
  (.int .i64 0), (.int .i64 0), (.string (bs []))])), (.op (some 5) none (.mv (.t 13))), (.op none none (.stn 5 (.t 6) (.t 15)))]) (.seq (.seq (.reg [(.op (some 16) none
  (.mv (.t 4))), (.op (some 17) none (.ldn 5 (.t 6))), (.op (some 18) none (.call 49 [(.t 16), (.t 17)])), (.op (some 7) none (.mv (.t 18)))]) (.seq (.reg [(.op (some
  19) none (.mv (.t 7))), (.op (some 20) none (.bin .neq (.t 19) (.c (.int .i64 0))))]) (.cond (.t 20) (.reg [(.op (some 21) none (.mv (.t 3))), (.op (some 22) none (.mv
  (.t 5))), (.op (some 23) none (.mv (.t 7))), (.op (some 24) none (.build [(.int .i64 0), (.int .i64 0)] [(0, (1, (.t 22))), (1, (1, (.t 23)))])), (.op (some 25) none
  (.bsl 28 1 [(.int .i64 0), (.int .i64 0)] [(0, (2, (.t 24)))])), (.op (some 26) none (.app 28 2 16 (.t 21) (.t 25))), (.op (some 3) none (.mv (.t 26)))]) .skip)))
  (.reg [(.op (some 27) none (.mv (.t 4))), (.op (some 28) none (.ldn 5 (.t 6))), (.op (some 29) none (.call 50 [(.t 27), (.t 28)]))])))) (.reg [(.op (some 30) none
  (.bin .add (.t 11) (.c (.int .i64 1)))), (.op (some 11) none (.mv (.t 30)))]))))
def s13_0 (S : Sys) (e : Fe) (H : Heap) (Q : Kx) : Prop := run S (.bin .lss (.c (e 11)) (.c (e 10))) [] H fun t12_6 H => jn (sq (fun e8 H => jn (sq (fun e10 H => run S
  (.bin .add (.c (e10 11)) (.c (.int .i64 1))) [] H fun t30_11 H => Q .normal (upd (upd e10 30 t30_11) 11 t30_11) H) Q) fun Q9 => run S (.iad 5 (.c (e8 9)) (.c (e8 11)))
  [] H fun t14_12 H => run S (.ldn 5 (.c t14_12)) [] H fun t15_13 H => run S (.alloc 74 [(.int .i64 0), (.int .i64 0), (.int .i64 0), (.int .i64 0), (.string (bs []))])
  [] H fun t6_14 H => run S (.stn 5 (.c t6_14) (.c t15_13)) [] H fun _ H => run S (.ldn 5 (.c t6_14)) [] H fun t17_15 H => run S (.call 49 [(.c (e8 4)), (.c t17_15)]) []
  H fun t18_16 H => run S (.bin .neq (.c t18_16) (.c (.int .i64 0))) [] H fun t20_17 H => jn (blk 1 Q9) fun Q18 => jn (sq (fun e20 H => run S (.ldn 5 (.c (e20 6))) [] H
  fun t28_21 H => run S (.call 50 [(.c (e20 4)), (.c t28_21)]) [] H fun t29_22 H => Q18 .normal (upd (upd (upd e20 27 (e20 4)) 28 t28_21) 29 t29_22) H) Q18) fun Q19 =>
  cnd t20_17 (fun Q23 => run S (.build [(.int .i64 0), (.int .i64 0)] [(0, (1, (.c (e8 11)))), (1, (1, (.c t18_16)))]) [] H fun t24_25 H => run S (.bsl 28 1 [(.int .i64
  0), (.int .i64 0)] [(0, (2, (.c t24_25)))]) [] H fun t25_26 H => run S (.app 28 2 16 (.c (e8 3)) (.c t25_26)) [] H fun t26_27 H => Q23 .normal (upd (upd (upd (upd (upd
  (upd (upd (upd (upd (upd (upd (upd (upd (upd (upd (upd (upd (upd e8 13 (e8 11)) 14 t14_12) 15 t15_13) 6 t6_14) 5 (e8 11)) 16 (e8 4)) 17 t17_15) 18 t18_16) 7 t18_16) 19
  t18_16) 20 t20_17) 21 (e8 3)) 22 (e8 11)) 23 t18_16) 24 t24_25) 25 t25_26) 26 t26_27) 3 t26_27) H) (fun Q24 => Q24 .normal (upd (upd (upd (upd (upd (upd (upd (upd (upd
  (upd (upd e8 13 (e8 11)) 14 t14_12) 15 t15_13) 6 t6_14) 5 (e8 11)) 16 (e8 4)) 17 t17_15) 18 t18_16) 7 t18_16) 19 t18_16) 20 t20_17) H) Q19) Q) fun Q7 => cnd t12_6 (fun
  Q28 => Q28 .normal (upd e 12 t12_6) H) (fun Q29 => Q29 (.exit 0) (upd e 12 t12_6) H) Q7
theorem h13_0 (S : Sys) (e : Fe) (H : Heap) (Q : Kx) : wpC S b13_0 e H Q = s13_0 S e H Q := by kernel_rfl
theorem l13_0 (S : Sys) {Q : Kx} (I : Nat → Fe → Heap → Prop) (d : Nat) {e0 : Fe} {H : Heap} (h0 : I d e0 H) (hr : ∀ (d : Nat) (e : Fe) (H : Heap), I d e H → s13_0 S e H
  (sq (fun e' H' => ∃ d', d' < d ∧ I d' e' H') Q)) : WL S b13_0 e0 H Q := WL_inv I d h0 fun d e H hi => (h13_0 S e H _).mpr (hr d e H hi)
theorem u13_0 (S : Sys) {Q : Kx} {e : Fe} {H : Heap} (h : s13_0 S e H (sq (fun e' H' => WL S b13_0 e' H' Q) Q)) : WL S b13_0 e H Q := WL_once ((h13_0 S e H _).mpr h)
def s13 (S : Sys) (a0 : Value) (H : Heap) (R : Kv) : Prop := run S (.call 48 []) [] H fun t8_1 H => run S (.lenL (.c a0)) [] H fun t10_2 H => jn (sq (fun e4 H => R (e4
  3) H) (fn [(.t 2)] R)) fun Q3 => jn (blk 0 Q3) fun Q5 => WL S b13_0 (upd (upd (upd (upd (upd (upd (upd (Env.get [a0]) 2 (.slice none 0 0)) 3 (.slice none 0 0)) 8 t8_1)
  4 t8_1) 9 a0) 10 t10_2) 11 (.int .i64 0)) H Q5
theorem h13 (S : Sys) (a0 : Value) (H : Heap) (R : Kv) : wpC S k13.body (Env.get [a0]) H (fn [(.t 2)] R) = s13 S a0 H R := by kernel_rfl
theorem w13 {S : Sys} (hR : S.R 13 = none) (hF : S.F 13 = some k13) (a0 : Value) {H : Heap} {R : Kv} (h : s13 S a0 H R) : Wf S 13 [a0] H R := Wf_sh hR hF ((h13 S a0 H
  R).mpr h)
def b14_2 : KCode := (.seq (.seq (.reg [(.op (some 33) none (.mv (.t 6))), (.op (some 34) none (.mv (.t 1))), (.op (some 35) none (.bin .lss (.t 33) (.t 34)))]) (.cond
  (.t 35) .skip (.exit 0))) (.seq (.block 1 (.seq (.reg [(.op (some 38) none (.mv (.t 0))), (.op (some 39) none (.mv (.t 6))), (.op (some 40) none (.iad 5 (.t 38) (.t
  39))), (.op (some 41) none (.fad 1 (.t 40))), (.op (some 42) none (.ld (.t 41))), (.op (some 43) none (.fad 1 (.t 5))), (.op (some 44) none (.ld (.t 43))), (.op (some
  45) none (.bin .eql (.t 42) (.t 44))), (.op (some 46) none (.mv (.t 45))), (.op (some 47) (some (46, true)) (.mv (.t 0))), (.op (some 48) (some (46, true)) (.mv (.t
  6))), (.op (some 49) (some (46, true)) (.iad 5 (.t 47) (.t 48))), (.op (some 50) (some (46, true)) (.fad 2 (.t 49))), (.op (some 51) (some (46, true)) (.ld (.t 50))),
  (.op (some 52) (some (46, true)) (.fad 2 (.t 5))), (.op (some 53) (some (46, true)) (.ld (.t 52))), (.op (some 54) (some (46, true)) (.bin .gtr (.t 51) (.t 53))), (.op
  (some 55) none (.pick (.t 46) (.t 54) (.c (.bool false))))]) (.cond (.t 55) (.seq (.reg [(.op (some 4) none (.mv (.c (.int .i64 2))))]) .ret) .skip))) (.reg [(.op
  (some 36) none (.mv (.t 6))), (.op (some 37) none (.bin .add (.t 36) (.c (.int .i64 1)))), (.op (some 6) none (.mv (.t 37)))])))
def s14_2 (S : Sys) (e : Fe) (H : Heap) (Q : Kx) : Prop := run S (.bin .lss (.c (e 6)) (.c (e 1))) [] H fun t35_128 H => jn (sq (fun e130 H => jn (sq (fun e132 H => run
  S (.bin .add (.c (e132 6)) (.c (.int .i64 1))) [] H fun t37_133 H => Q .normal (upd (upd (upd e132 36 (e132 6)) 37 t37_133) 6 t37_133) H) Q) fun Q131 => run S (.iad 5
  (.c (e130 0)) (.c (e130 6))) [] H fun t40_134 H => run S (.fad 1 (.c t40_134)) [] H fun t41_135 H => run S (.ld (.c t41_135)) [] H fun t42_136 H => run S (.fad 1 (.c
  (e130 5))) [] H fun t43_137 H => run S (.ld (.c t43_137)) [] H fun t44_138 H => run S (.bin .eql (.c t42_136) (.c t44_138)) [] H fun t45_139 H => gd t45_139 true (run
  S (.mv (.c (e130 0))) [] H) H fun t47_140 H => gd t45_139 true (run S (.mv (.c (e130 6))) [] H) H fun t48_141 H => gd t45_139 true (run S (.iad 5 (.c t47_140) (.c
  t48_141)) [] H) H fun t49_142 H => gd t45_139 true (run S (.fad 2 (.c t49_142)) [] H) H fun t50_143 H => gd t45_139 true (run S (.ld (.c t50_143)) [] H) H fun t51_144
  H => gd t45_139 true (run S (.fad 2 (.c (e130 5))) [] H) H fun t52_145 H => gd t45_139 true (run S (.ld (.c t52_145)) [] H) H fun t53_146 H => gd t45_139 true (run S
  (.bin .gtr (.c t51_144) (.c t53_146)) [] H) H fun t54_147 H => run S (.pick (.c t45_139) (.c t54_147) (.c (.bool false))) [] H fun t55_148 H => jn (blk 1 Q131) fun
  Q149 => cnd t55_148 (fun Q150 => Q150 .ret (upd (upd (upd (upd (upd (upd (upd (upd (upd (upd (upd (upd (upd (upd (upd (upd (upd (upd (upd e130 38 (e130 0)) 39 (e130
  6)) 40 t40_134) 41 t41_135) 42 t42_136) 43 t43_137) 44 t44_138) 45 t45_139) 46 t45_139) 47 t47_140) 48 t48_141) 49 t49_142) 50 t50_143) 51 t51_144) 52 t52_145) 53
  t53_146) 54 t54_147) 55 t55_148) 4 (.int .i64 2)) H) (fun Q151 => Q151 .normal (upd (upd (upd (upd (upd (upd (upd (upd (upd (upd (upd (upd (upd (upd (upd (upd (upd
  (upd e130 38 (e130 0)) 39 (e130 6)) 40 t40_134) 41 t41_135) 42 t42_136) 43 t43_137) 44 t44_138) 45 t45_139) 46 t45_139) 47 t47_140) 48 t48_141) 49 t49_142) 50 t50_143)
  51 t51_144) 52 t52_145) 53 t53_146) 54 t54_147) 55 t55_148) H) Q149) Q) fun Q129 => cnd t35_128 (fun Q152 => Q152 .normal (upd (upd (upd e 33 (e 6)) 34 (e 1)) 35
  t35_128) H) (fun Q153 => Q153 (.exit 0) (upd (upd (upd e 33 (e 6)) 34 (e 1)) 35 t35_128) H) Q129
theorem h14_2 (S : Sys) (e : Fe) (H : Heap) (Q : Kx) : wpC S b14_2 e H Q = s14_2 S e H Q := by kernel_rfl
theorem l14_2 (S : Sys) {Q : Kx} (I : Nat → Fe → Heap → Prop) (d : Nat) {e0 : Fe} {H : Heap} (h0 : I d e0 H) (hr : ∀ (d : Nat) (e : Fe) (H : Heap), I d e H → s14_2 S e H
  (sq (fun e' H' => ∃ d', d' < d ∧ I d' e' H') Q)) : WL S b14_2 e0 H Q := WL_inv I d h0 fun d e H hi => (h14_2 S e H _).mpr (hr d e H hi)
theorem u14_2 (S : Sys) {Q : Kx} {e : Fe} {H : Heap} (h : s14_2 S e H (sq (fun e' H' => WL S b14_2 e' H' Q) Q)) : WL S b14_2 e H Q := WL_once ((h14_2 S e H _).mpr h)
def b14_1 : KCode := (.seq (.seq (.reg [(.op (some 56) none (.mv (.t 7))), (.op (some 57) none (.mv (.t 1))), (.op (some 58) none (.bin .lss (.t 56) (.t 57)))]) (.cond
  (.t 58) .skip (.exit 2))) (.seq (.block 3 (.seq (.reg [(.op (some 61) none (.mv (.t 0))), (.op (some 62) none (.mv (.t 7))), (.op (some 63) none (.iad 5 (.t 61) (.t
  62))), (.op (some 64) none (.fad 1 (.t 63))), (.op (some 65) none (.ld (.t 64))), (.op (some 66) none (.fad 1 (.t 5))), (.op (some 67) none (.ld (.t 66))), (.op (some
  68) none (.bin .eql (.t 65) (.t 67))), (.op (some 69) none (.mv (.t 68))), (.op (some 70) (some (69, true)) (.mv (.t 0))), (.op (some 71) (some (69, true)) (.mv (.t
  7))), (.op (some 72) (some (69, true)) (.iad 5 (.t 70) (.t 71))), (.op (some 73) (some (69, true)) (.fad 2 (.t 72))), (.op (some 74) (some (69, true)) (.ld (.t 73))),
  (.op (some 75) (some (69, true)) (.fad 2 (.t 5))), (.op (some 76) (some (69, true)) (.ld (.t 75))), (.op (some 77) (some (69, true)) (.bin .eql (.t 74) (.t 76))), (.op
  (some 78) none (.pick (.t 69) (.t 77) (.c (.bool false)))), (.op (some 79) none (.mv (.t 78))), (.op (some 80) (some (79, true)) (.mv (.t 0))), (.op (some 81) (some
  (79, true)) (.mv (.t 7))), (.op (some 82) (some (79, true)) (.iad 5 (.t 80) (.t 81))), (.op (some 83) (some (79, true)) (.fad 0 (.t 82))), (.op (some 84) (some (79,
  true)) (.ld (.t 83))), (.op (some 85) (some (79, true)) (.bin .eql (.t 84) (.c (.int .i64 3)))), (.op (some 86) none (.pick (.t 79) (.t 85) (.c (.bool false))))])
  (.cond (.t 86) (.seq (.reg [(.op (some 4) none (.mv (.c (.int .i64 3))))]) .ret) .skip))) (.reg [(.op (some 59) none (.mv (.t 7))), (.op (some 60) none (.bin .add (.t
  59) (.c (.int .i64 1)))), (.op (some 7) none (.mv (.t 60)))])))
def s14_1 (S : Sys) (e : Fe) (H : Heap) (Q : Kx) : Prop := run S (.bin .lss (.c (e 7)) (.c (e 1))) [] H fun t58_95 H => jn (sq (fun e97 H => jn (sq (fun e99 H => run S
  (.bin .add (.c (e99 7)) (.c (.int .i64 1))) [] H fun t60_100 H => Q .normal (upd (upd (upd e99 59 (e99 7)) 60 t60_100) 7 t60_100) H) Q) fun Q98 => run S (.iad 5 (.c
  (e97 0)) (.c (e97 7))) [] H fun t63_101 H => run S (.fad 1 (.c t63_101)) [] H fun t64_102 H => run S (.ld (.c t64_102)) [] H fun t65_103 H => run S (.fad 1 (.c (e97
  5))) [] H fun t66_104 H => run S (.ld (.c t66_104)) [] H fun t67_105 H => run S (.bin .eql (.c t65_103) (.c t67_105)) [] H fun t68_106 H => gd t68_106 true (run S (.mv
  (.c (e97 0))) [] H) H fun t70_107 H => gd t68_106 true (run S (.mv (.c (e97 7))) [] H) H fun t71_108 H => gd t68_106 true (run S (.iad 5 (.c t70_107) (.c t71_108)) []
  H) H fun t72_109 H => gd t68_106 true (run S (.fad 2 (.c t72_109)) [] H) H fun t73_110 H => gd t68_106 true (run S (.ld (.c t73_110)) [] H) H fun t74_111 H => gd
  t68_106 true (run S (.fad 2 (.c (e97 5))) [] H) H fun t75_112 H => gd t68_106 true (run S (.ld (.c t75_112)) [] H) H fun t76_113 H => gd t68_106 true (run S (.bin .eql
  (.c t74_111) (.c t76_113)) [] H) H fun t77_114 H => run S (.pick (.c t68_106) (.c t77_114) (.c (.bool false))) [] H fun t78_115 H => gd t78_115 true (run S (.mv (.c
  (e97 0))) [] H) H fun t80_116 H => gd t78_115 true (run S (.mv (.c (e97 7))) [] H) H fun t81_117 H => gd t78_115 true (run S (.iad 5 (.c t80_116) (.c t81_117)) [] H) H
  fun t82_118 H => gd t78_115 true (run S (.fad 0 (.c t82_118)) [] H) H fun t83_119 H => gd t78_115 true (run S (.ld (.c t83_119)) [] H) H fun t84_120 H => gd t78_115
  true (run S (.bin .eql (.c t84_120) (.c (.int .i64 3))) [] H) H fun t85_121 H => run S (.pick (.c t78_115) (.c t85_121) (.c (.bool false))) [] H fun t86_122 H => jn
  (blk 3 Q98) fun Q123 => cnd t86_122 (fun Q124 => Q124 .ret (upd (upd (upd (upd (upd (upd (upd (upd (upd (upd (upd (upd (upd (upd (upd (upd (upd (upd (upd (upd (upd
  (upd (upd (upd (upd (upd (upd e97 61 (e97 0)) 62 (e97 7)) 63 t63_101) 64 t64_102) 65 t65_103) 66 t66_104) 67 t67_105) 68 t68_106) 69 t68_106) 70 t70_107) 71 t71_108)
  72 t72_109) 73 t73_110) 74 t74_111) 75 t75_112) 76 t76_113) 77 t77_114) 78 t78_115) 79 t78_115) 80 t80_116) 81 t81_117) 82 t82_118) 83 t83_119) 84 t84_120) 85 t85_121)
  86 t86_122) 4 (.int .i64 3)) H) (fun Q125 => Q125 .normal (upd (upd (upd (upd (upd (upd (upd (upd (upd (upd (upd (upd (upd (upd (upd (upd (upd (upd (upd (upd (upd (upd
  (upd (upd (upd (upd e97 61 (e97 0)) 62 (e97 7)) 63 t63_101) 64 t64_102) 65 t65_103) 66 t66_104) 67 t67_105) 68 t68_106) 69 t68_106) 70 t70_107) 71 t71_108) 72 t72_109)
  73 t73_110) 74 t74_111) 75 t75_112) 76 t76_113) 77 t77_114) 78 t78_115) 79 t78_115) 80 t80_116) 81 t81_117) 82 t82_118) 83 t83_119) 84 t84_120) 85 t85_121) 86 t86_122)
  H) Q123) Q) fun Q96 => cnd t58_95 (fun Q126 => Q126 .normal (upd (upd (upd e 56 (e 7)) 57 (e 1)) 58 t58_95) H) (fun Q127 => Q127 (.exit 2) (upd (upd (upd e 56 (e 7))
  57 (e 1)) 58 t58_95) H) Q96
theorem h14_1 (S : Sys) (e : Fe) (H : Heap) (Q : Kx) : wpC S b14_1 e H Q = s14_1 S e H Q := by kernel_rfl
theorem l14_1 (S : Sys) {Q : Kx} (I : Nat → Fe → Heap → Prop) (d : Nat) {e0 : Fe} {H : Heap} (h0 : I d e0 H) (hr : ∀ (d : Nat) (e : Fe) (H : Heap), I d e H → s14_1 S e H
  (sq (fun e' H' => ∃ d', d' < d ∧ I d' e' H') Q)) : WL S b14_1 e0 H Q := WL_inv I d h0 fun d e H hi => (h14_1 S e H _).mpr (hr d e H hi)
theorem u14_1 (S : Sys) {Q : Kx} {e : Fe} {H : Heap} (h : s14_1 S e H (sq (fun e' H' => WL S b14_1 e' H' Q) Q)) : WL S b14_1 e H Q := WL_once ((h14_1 S e H _).mpr h)
def b14_0 : KCode := (.seq (.seq (.reg [(.op (some 90) none (.mv (.t 10))), (.op (some 91) none (.mv (.t 1))), (.op (some 92) none (.bin .lss (.t 90) (.t 91)))]) (.cond
  (.t 92) .skip (.exit 4))) (.seq (.block 5 (.seq (.seq (.reg [(.op (some 95) none (.mv (.t 0))), (.op (some 96) none (.mv (.t 10))), (.op (some 97) none (.iad 5 (.t 95)
  (.t 96))), (.op (some 98) none (.ldn 5 (.t 97))), (.op (some 99) none (.ldn 5 (.t 5))), (.op (some 100) none (.call 51 [(.t 98), (.t 99)])), (.op (some 101) none (.mv
  (.t 100))), (.op (some 102) (some (101, true)) (.mv (.t 0))), (.op (some 103) (some (101, true)) (.mv (.t 10))), (.op (some 104) (some (101, true)) (.iad 5 (.t 102)
  (.t 103))), (.op (some 105) (some (101, true)) (.fad 0 (.t 104))), (.op (some 106) (some (101, true)) (.ld (.t 105))), (.op (some 107) (some (101, true)) (.bin .eql
  (.t 106) (.c (.int .i64 1)))), (.op (some 108) none (.pick (.t 101) (.t 107) (.c (.bool false))))]) (.cond (.t 108) (.reg [(.op (some 109) none (.mv (.t 10))), (.op
  (some 8) none (.mv (.t 109)))]) .skip)) (.seq (.reg [(.op (some 110) none (.mv (.t 0))), (.op (some 111) none (.mv (.t 10))), (.op (some 112) none (.iad 5 (.t 110) (.t
  111))), (.op (some 113) none (.ldn 5 (.t 112))), (.op (some 114) none (.ldn 5 (.t 5))), (.op (some 115) none (.call 51 [(.t 113), (.t 114)])), (.op (some 116) none
  (.mv (.t 115))), (.op (some 117) (some (116, true)) (.mv (.t 0))), (.op (some 118) (some (116, true)) (.mv (.t 10))), (.op (some 119) (some (116, true)) (.iad 5 (.t
  117) (.t 118))), (.op (some 120) (some (116, true)) (.fad 0 (.t 119))), (.op (some 121) (some (116, true)) (.ld (.t 120))), (.op (some 122) (some (116, true)) (.bin
  .eql (.t 121) (.c (.int .i64 2)))), (.op (some 123) none (.pick (.t 116) (.t 122) (.c (.bool false))))]) (.cond (.t 123) (.reg [(.op (some 9) none (.mv (.c (.bool
  true))))]) .skip)))) (.reg [(.op (some 93) none (.mv (.t 10))), (.op (some 94) none (.bin .add (.t 93) (.c (.int .i64 1)))), (.op (some 10) none (.mv (.t 94)))])))
def s14_0 (S : Sys) (e : Fe) (H : Heap) (Q : Kx) : Prop := run S (.bin .lss (.c (e 10)) (.c (e 1))) [] H fun t92_58 H => jn (sq (fun e60 H => jn (sq (fun e62 H => run S
  (.bin .add (.c (e62 10)) (.c (.int .i64 1))) [] H fun t94_63 H => Q .normal (upd (upd (upd e62 93 (e62 10)) 94 t94_63) 10 t94_63) H) Q) fun Q61 => run S (.iad 5 (.c
  (e60 0)) (.c (e60 10))) [] H fun t97_64 H => run S (.ldn 5 (.c t97_64)) [] H fun t98_65 H => run S (.ldn 5 (.c (e60 5))) [] H fun t99_66 H => run S (.call 51 [(.c
  t98_65), (.c t99_66)]) [] H fun t100_67 H => gd t100_67 true (run S (.mv (.c (e60 0))) [] H) H fun t102_68 H => gd t100_67 true (run S (.mv (.c (e60 10))) [] H) H fun
  t103_69 H => gd t100_67 true (run S (.iad 5 (.c t102_68) (.c t103_69)) [] H) H fun t104_70 H => gd t100_67 true (run S (.fad 0 (.c t104_70)) [] H) H fun t105_71 H =>
  gd t100_67 true (run S (.ld (.c t105_71)) [] H) H fun t106_72 H => gd t100_67 true (run S (.bin .eql (.c t106_72) (.c (.int .i64 1))) [] H) H fun t107_73 H => run S
  (.pick (.c t100_67) (.c t107_73) (.c (.bool false))) [] H fun t108_74 H => jn (blk 5 Q61) fun Q75 => jn (sq (fun e77 H => run S (.iad 5 (.c (e77 0)) (.c (e77 10))) []
  H fun t112_78 H => run S (.ldn 5 (.c t112_78)) [] H fun t113_79 H => run S (.ldn 5 (.c (e77 5))) [] H fun t114_80 H => run S (.call 51 [(.c t113_79), (.c t114_80)]) []
  H fun t115_81 H => gd t115_81 true (run S (.mv (.c (e77 0))) [] H) H fun t117_82 H => gd t115_81 true (run S (.mv (.c (e77 10))) [] H) H fun t118_83 H => gd t115_81
  true (run S (.iad 5 (.c t117_82) (.c t118_83)) [] H) H fun t119_84 H => gd t115_81 true (run S (.fad 0 (.c t119_84)) [] H) H fun t120_85 H => gd t115_81 true (run S
  (.ld (.c t120_85)) [] H) H fun t121_86 H => gd t115_81 true (run S (.bin .eql (.c t121_86) (.c (.int .i64 2))) [] H) H fun t122_87 H => run S (.pick (.c t115_81) (.c
  t122_87) (.c (.bool false))) [] H fun t123_88 H => cnd t123_88 (fun Q89 => Q89 .normal (upd (upd (upd (upd (upd (upd (upd (upd (upd (upd (upd (upd (upd (upd (upd e77
  110 (e77 0)) 111 (e77 10)) 112 t112_78) 113 t113_79) 114 t114_80) 115 t115_81) 116 t115_81) 117 t117_82) 118 t118_83) 119 t119_84) 120 t120_85) 121 t121_86) 122
  t122_87) 123 t123_88) 9 (.bool true)) H) (fun Q90 => Q90 .normal (upd (upd (upd (upd (upd (upd (upd (upd (upd (upd (upd (upd (upd (upd e77 110 (e77 0)) 111 (e77 10))
  112 t112_78) 113 t113_79) 114 t114_80) 115 t115_81) 116 t115_81) 117 t117_82) 118 t118_83) 119 t119_84) 120 t120_85) 121 t121_86) 122 t122_87) 123 t123_88) H) Q75)
  Q75) fun Q76 => cnd t108_74 (fun Q91 => Q91 .normal (upd (upd (upd (upd (upd (upd (upd (upd (upd (upd (upd (upd (upd (upd (upd (upd e60 95 (e60 0)) 96 (e60 10)) 97
  t97_64) 98 t98_65) 99 t99_66) 100 t100_67) 101 t100_67) 102 t102_68) 103 t103_69) 104 t104_70) 105 t105_71) 106 t106_72) 107 t107_73) 108 t108_74) 109 (e60 10)) 8 (e60
  10)) H) (fun Q92 => Q92 .normal (upd (upd (upd (upd (upd (upd (upd (upd (upd (upd (upd (upd (upd (upd e60 95 (e60 0)) 96 (e60 10)) 97 t97_64) 98 t98_65) 99 t99_66) 100
  t100_67) 101 t100_67) 102 t102_68) 103 t103_69) 104 t104_70) 105 t105_71) 106 t106_72) 107 t107_73) 108 t108_74) H) Q76) Q) fun Q59 => cnd t92_58 (fun Q93 => Q93
  .normal (upd (upd (upd e 90 (e 10)) 91 (e 1)) 92 t92_58) H) (fun Q94 => Q94 (.exit 4) (upd (upd (upd e 90 (e 10)) 91 (e 1)) 92 t92_58) H) Q59
theorem h14_0 (S : Sys) (e : Fe) (H : Heap) (Q : Kx) : wpC S b14_0 e H Q = s14_0 S e H Q := by kernel_rfl
theorem l14_0 (S : Sys) {Q : Kx} (I : Nat → Fe → Heap → Prop) (d : Nat) {e0 : Fe} {H : Heap} (h0 : I d e0 H) (hr : ∀ (d : Nat) (e : Fe) (H : Heap), I d e H → s14_0 S e H
  (sq (fun e' H' => ∃ d', d' < d ∧ I d' e' H') Q)) : WL S b14_0 e0 H Q := WL_inv I d h0 fun d e H hi => (h14_0 S e H _).mpr (hr d e H hi)
theorem u14_0 (S : Sys) {Q : Kx} {e : Fe} {H : Heap} (h : s14_0 S e H (sq (fun e' H' => WL S b14_0 e' H' Q) Q)) : WL S b14_0 e H Q := WL_once ((h14_0 S e H _).mpr h)
def s14 (S : Sys) (a0 a1 : Value) (H : Heap) (R : Kv) : Prop := run S (.iad 5 (.c a0) (.c a1)) [] H fun t13_1 H => run S (.ldn 5 (.c t13_1)) [] H fun t14_2 H => run S
  (.alloc 74 [(.int .i64 0), (.int .i64 0), (.int .i64 0), (.int .i64 0), (.string (bs []))]) [] H fun t5_3 H => run S (.stn 5 (.c t5_3) (.c t14_2)) [] H fun _ H => run
  S (.fad 0 (.c t5_3)) [] H fun t15_4 H => run S (.ld (.c t15_4)) [] H fun t16_5 H => run S (.bin .lss (.c t16_5) (.c (.int .i64 1))) [] H fun t17_6 H => gd t17_6 false
  (run S (.fad 0 (.c t5_3)) [] H) H fun t19_7 H => gd t17_6 false (run S (.ld (.c t19_7)) [] H) H fun t20_8 H => gd t17_6 false (run S (.bin .gtr (.c t20_8) (.c (.int
  .i64 4))) [] H) H fun t21_9 H => run S (.pick (.c t17_6) (.c (.bool true)) (.c t21_9)) [] H fun t22_10 H => gd t22_10 false (run S (.fad 1 (.c t5_3)) [] H) H fun
  t24_11 H => gd t22_10 false (run S (.ld (.c t24_11)) [] H) H fun t25_12 H => gd t22_10 false (run S (.bin .lss (.c t25_12) (.c (.int .i64 1))) [] H) H fun t26_13 H =>
  run S (.pick (.c t22_10) (.c (.bool true)) (.c t26_13)) [] H fun t27_14 H => gd t27_14 false (run S (.fad 2 (.c t5_3)) [] H) H fun t29_15 H => gd t27_14 false (run S
  (.ld (.c t29_15)) [] H) H fun t30_16 H => gd t27_14 false (run S (.bin .lss (.c t30_16) (.c (.int .i64 1))) [] H) H fun t31_17 H => run S (.pick (.c t27_14) (.c (.bool
  true)) (.c t31_17)) [] H fun t32_18 H => jn (sq (fun e20 H => jn (sq (fun e22 H => jn (sq (fun e24 H => run S (.fad 0 (.c (e24 5))) [] H fun t87_25 H => run S (.ld (.c
  t87_25)) [] H fun t88_26 H => run S (.bin .neq (.c t88_26) (.c (.int .i64 2))) [] H fun t89_27 H => jn (sq (fun e29 H => jn (sq (fun e31 H => run S (.bin .lss (.c (e31
  8)) (.c (.int .i64 0))) [] H fun t125_32 H => jn (sq (fun e34 H => run S (.iad 5 (.c (e34 0)) (.c (e34 8))) [] H fun t128_35 H => run S (.fad 4 (.c t128_35)) [] H fun
  t129_36 H => run S (.ld (.c t129_36)) [] H fun t130_37 H => run S (.fad 4 (.c (e34 5))) [] H fun t131_38 H => run S (.ld (.c t131_38)) [] H fun t132_39 H => run S
  (.bin .neq (.c t130_37) (.c t132_39)) [] H fun t133_40 H => jn (sq (fun e42 H => jn (sq (fun e44 H => R (.int .i64 0) H) (fn [(.t 4)] R)) fun Q43 => cnd (e42 9) (fun
  Q45 => Q45 .ret (upd (upd e42 134 (e42 9)) 4 (.int .i64 6)) H) (fun Q46 => Q46 .normal (upd e42 134 (e42 9)) H) Q43) (fn [(.t 4)] R)) fun Q41 => cnd t133_40 (fun Q47
  => Q47 .ret (upd (upd (upd (upd (upd (upd (upd (upd (upd e34 126 (e34 0)) 127 (e34 8)) 128 t128_35) 129 t129_36) 130 t130_37) 131 t131_38) 132 t132_39) 133 t133_40) 4
  (.int .i64 5)) H) (fun Q48 => Q48 .normal (upd (upd (upd (upd (upd (upd (upd (upd e34 126 (e34 0)) 127 (e34 8)) 128 t128_35) 129 t129_36) 130 t130_37) 131 t131_38) 132
  t132_39) 133 t133_40) H) Q41) (fn [(.t 4)] R)) fun Q33 => cnd t125_32 (fun Q49 => Q49 .ret (upd (upd (upd e31 124 (e31 8)) 125 t125_32) 4 (.int .i64 4)) H) (fun Q50 =>
  Q50 .normal (upd (upd e31 124 (e31 8)) 125 t125_32) H) Q33) (fn [(.t 4)] R)) fun Q30 => jn (blk 4 Q30) fun Q51 => WL S b14_0 (upd (upd (upd e29 8 (.int .i64 (-1))) 9
  (.bool false)) 10 (.int .i64 0)) H Q51) (fn [(.t 4)] R)) fun Q28 => cnd t89_27 (fun Q52 => Q52 .ret (upd (upd (upd (upd e24 87 t87_25) 88 t88_26) 89 t89_27) 4 (.int
  .i64 0)) H) (fun Q53 => Q53 .normal (upd (upd (upd e24 87 t87_25) 88 t88_26) 89 t89_27) H) Q28) (fn [(.t 4)] R)) fun Q23 => jn (blk 2 Q23) fun Q54 => WL S b14_1 (upd
  e22 7 (.int .i64 0)) H Q54) (fn [(.t 4)] R)) fun Q21 => jn (blk 0 Q21) fun Q55 => WL S b14_2 (upd e20 6 (.int .i64 0)) H Q55) (fn [(.t 4)] R)) fun Q19 => cnd t32_18
  (fun Q56 => Q56 .ret (upd (upd (upd (upd (upd (upd (upd (upd (upd (upd (upd (upd (upd (upd (upd (upd (upd (upd (upd (upd (upd (upd (upd (upd (upd (Env.get [a0, a1]) 4
  (.int .i64 0)) 11 a0) 12 a1) 13 t13_1) 14 t14_2) 5 t5_3) 15 t15_4) 16 t16_5) 17 t17_6) 18 t17_6) 19 t19_7) 20 t20_8) 21 t21_9) 22 t22_10) 23 t22_10) 24 t24_11) 25
  t25_12) 26 t26_13) 27 t27_14) 28 t27_14) 29 t29_15) 30 t30_16) 31 t31_17) 32 t32_18) 4 (.int .i64 1)) H) (fun Q57 => Q57 .normal (upd (upd (upd (upd (upd (upd (upd
  (upd (upd (upd (upd (upd (upd (upd (upd (upd (upd (upd (upd (upd (upd (upd (upd (upd (Env.get [a0, a1]) 4 (.int .i64 0)) 11 a0) 12 a1) 13 t13_1) 14 t14_2) 5 t5_3) 15
  t15_4) 16 t16_5) 17 t17_6) 18 t17_6) 19 t19_7) 20 t20_8) 21 t21_9) 22 t22_10) 23 t22_10) 24 t24_11) 25 t25_12) 26 t26_13) 27 t27_14) 28 t27_14) 29 t29_15) 30 t30_16)
  31 t31_17) 32 t32_18) H) Q19
theorem h14 (S : Sys) (a0 a1 : Value) (H : Heap) (R : Kv) : wpC S k14.body (Env.get [a0, a1]) H (fn [(.t 4)] R) = s14 S a0 a1 H R := by kernel_rfl
theorem w14 {S : Sys} (hR : S.R 14 = none) (hF : S.F 14 = some k14) (a0 a1 : Value) {H : Heap} {R : Kv} (h : s14 S a0 a1 H R) : Wf S 14 [a0, a1] H R := Wf_sh hR hF ((h14
  S a0 a1 H R).mpr h)
def s15 (S : Sys) (a0 : Value) (H : Heap) (R : Kv) : Prop := run S (.alloc 28 [(.int .i64 0), (.int .i64 0)]) [] H fun t2_1 H => run S (.call 13 [(.c a0)]) [] H fun t6_2
  H => run S (.lenL (.c t6_2)) [] H fun t8_3 H => run S (.bin .eql (.c t8_3) (.c (.int .i64 0))) [] H fun t9_4 H => jn (sq (fun e6 H => run S (.iad 2 (.c (e6 4)) (.c
  (.int .i64 0))) [] H fun t12_7 H => run S (.ldn 2 (.c t12_7)) [] H fun t13_8 H => run S (.stn 2 (.c (e6 2)) (.c t13_8)) [] H fun _ H => (fn [(.cn 2 2), (.t 3)] R) .ret
  (upd (upd (upd (upd e6 11 (e6 4)) 12 t12_7) 13 t13_8) 3 (.bool true)) H) (fn [(.cn 2 2), (.t 3)] R)) fun Q5 => cnd t9_4 (fun Q9 => run S (.build [(.int .i64 0), (.int
  .i64 0)] []) [] H fun t10_11 H => run S (.stn 2 (.c t2_1) (.c t10_11)) [] H fun _ H => Q9 .ret (upd (upd (upd (upd (upd (upd (upd (upd (upd (upd (Env.get [a0]) 2 t2_1)
  3 (.bool false)) 5 a0) 6 t6_2) 4 t6_2) 7 t6_2) 8 t8_3) 9 t9_4) 10 t10_11) 3 (.bool false)) H) (fun Q10 => Q10 .normal (upd (upd (upd (upd (upd (upd (upd (upd (Env.get
  [a0]) 2 t2_1) 3 (.bool false)) 5 a0) 6 t6_2) 4 t6_2) 7 t6_2) 8 t8_3) 9 t9_4) H) Q5
theorem h15 (S : Sys) (a0 : Value) (H : Heap) (R : Kv) : wpC S k15.body (Env.get [a0]) H (fn [(.cn 2 2), (.t 3)] R) = s15 S a0 H R := by kernel_rfl
theorem w15 {S : Sys} (hR : S.R 15 = none) (hF : S.F 15 = some k15) (a0 : Value) {H : Heap} {R : Kv} (h : s15 S a0 H R) : Wf S 15 [a0] H R := Wf_sh hR hF ((h15 S a0 H
  R).mpr h)
def s48 (S : Sys) (H : Heap) (R : Kv) : Prop := run S .mkm [] H fun t1_1 H => run S .mkm [] H fun t2_2 H => run S .mkm [] H fun t3_3 H => run S .mkm [] H fun t4_4 H =>
  run S (.build [(.map none), (.map none), (.map none), (.map none)] [(0, (1, (.c t1_1))), (1, (1, (.c t2_2))), (2, (1, (.c t3_3))), (3, (1, (.c t4_4)))]) [] H fun t5_5
  H => run S (.box 121 (.c t5_5)) [] H fun t6_6 H => R t6_6 H
theorem h48 (S : Sys) (H : Heap) (R : Kv) : wpC S k48.body (Env.get []) H (fn [(.t 0)] R) = s48 S  H R := by kernel_rfl
theorem w48 {S : Sys} (hR : S.R 48 = none) (hF : S.F 48 = some k48) {H : Heap} {R : Kv} (h : s48 S  H R) : Wf S 48 [] H R := Wf_sh hR hF ((h48 S  H R).mpr h)
def s49 (S : Sys) (a0 a1 : Value) (H : Heap) (R : Kv) : Prop := run S (.box 74 (.c a1)) [] H fun t3_1 H => jn (sq (fun e3 H => R (.int .i64 0) H) (fn [(.t 4)] R)) fun Q2
  => run S (.fad 0 (.c t3_1)) [] H fun t6_4 H => run S (.ld (.c t6_4)) [] H fun t7_5 H => run S (.bin .lss (.c t7_5) (.c (.int .i64 1))) [] H fun t8_6 H => gd t8_6 false
  (run S (.fad 0 (.c t3_1)) [] H) H fun t10_7 H => gd t8_6 false (run S (.ld (.c t10_7)) [] H) H fun t11_8 H => gd t8_6 false (run S (.bin .gtr (.c t11_8) (.c (.int .i64
  4))) [] H) H fun t12_9 H => run S (.pick (.c t8_6) (.c (.bool true)) (.c t12_9)) [] H fun t13_10 H => gd t13_10 false (run S (.fad 1 (.c t3_1)) [] H) H fun t15_11 H =>
  gd t13_10 false (run S (.ld (.c t15_11)) [] H) H fun t16_12 H => gd t13_10 false (run S (.bin .lss (.c t16_12) (.c (.int .i64 1))) [] H) H fun t17_13 H => run S (.pick
  (.c t13_10) (.c (.bool true)) (.c t17_13)) [] H fun t18_14 H => gd t18_14 false (run S (.fad 2 (.c t3_1)) [] H) H fun t20_15 H => gd t18_14 false (run S (.ld (.c
  t20_15)) [] H) H fun t21_16 H => gd t18_14 false (run S (.bin .lss (.c t21_16) (.c (.int .i64 1))) [] H) H fun t22_17 H => run S (.pick (.c t18_14) (.c (.bool true))
  (.c t22_17)) [] H fun t23_18 H => jn (blk 0 Q2) fun Q19 => cnd t23_18 (fun Q20 => Q20 .ret (upd (upd (upd (upd (upd (upd (upd (upd (upd (upd (upd (upd (upd (upd (upd
  (upd (upd (upd (upd (upd (upd (upd (Env.get [a0, a1]) 3 t3_1) 4 (.int .i64 0)) 6 t6_4) 7 t7_5) 8 t8_6) 9 t8_6) 10 t10_7) 11 t11_8) 12 t12_9) 13 t13_10) 14 t13_10) 15
  t15_11) 16 t16_12) 17 t17_13) 18 t18_14) 19 t18_14) 20 t20_15) 21 t21_16) 22 t22_17) 23 t23_18) 5 t23_18) 4 (.int .i64 1)) H) (fun Q21 => run S (.fad 2 (.c t3_1)) [] H
  fun t25_22 H => run S (.ld (.c t25_22)) [] H fun t26_23 H => run S (.nck (.c a0)) [] H fun t28_24 H => run S (.fad 0 (.c t28_24)) [] H fun t29_25 H => run S (.ld (.c
  t29_25)) [] H fun t30_26 H => run S (.fad 1 (.c t3_1)) [] H fun t31_27 H => run S (.ld (.c t31_27)) [] H fun t32_28 H => run S (.lkp (.s .int) (.int .i64 0) false (.c
  t30_26) (.c t32_28)) [] H fun t33_29 H => run S (.bin .lss (.c t26_23) (.c t33_29)) [] H fun t34_30 H => cnd t34_30 (fun Q31 => Q31 .ret (upd (upd (upd (upd (upd (upd
  (upd (upd (upd (upd (upd (upd (upd (upd (upd (upd (upd (upd (upd (upd (upd (upd (upd (upd (upd (upd (upd (upd (upd (upd (upd (upd (upd (Env.get [a0, a1]) 3 t3_1) 4
  (.int .i64 0)) 6 t6_4) 7 t7_5) 8 t8_6) 9 t8_6) 10 t10_7) 11 t11_8) 12 t12_9) 13 t13_10) 14 t13_10) 15 t15_11) 16 t16_12) 17 t17_13) 18 t18_14) 19 t18_14) 20 t20_15) 21
  t21_16) 22 t22_17) 23 t23_18) 5 t23_18) 25 t25_22) 26 t26_23) 27 a0) 28 t28_24) 29 t29_25) 30 t30_26) 31 t31_27) 32 t32_28) 33 t33_29) 34 t34_30) 24 t34_30) 4 (.int
  .i64 2)) H) (fun Q32 => run S (.nck (.c a0)) [] H fun t37_33 H => run S (.fad 1 (.c t37_33)) [] H fun t38_34 H => run S (.ld (.c t38_34)) [] H fun t39_35 H => run S
  (.fad 1 (.c t3_1)) [] H fun t40_36 H => run S (.ld (.c t40_36)) [] H fun t41_37 H => run S (.fad 2 (.c t3_1)) [] H fun t42_38 H => run S (.ld (.c t42_38)) [] H fun
  t43_39 H => run S (.build [(.int .i64 0), (.int .i64 0)] [(0, (1, (.c t41_37))), (1, (1, (.c t43_39)))]) [] H fun t44_40 H => run S (.lkp (.agg [.int, .int]) (.bool
  false) false (.c t39_35) (.c t44_40)) [] H fun t45_41 H => cnd t45_41 (fun Q42 => Q42 .ret (upd (upd (upd (upd (upd (upd (upd (upd (upd (upd (upd (upd (upd (upd (upd
  (upd (upd (upd (upd (upd (upd (upd (upd (upd (upd (upd (upd (upd (upd (upd (upd (upd (upd (upd (upd (upd (upd (upd (upd (upd (upd (upd (upd (upd (Env.get [a0, a1]) 3
  t3_1) 4 (.int .i64 0)) 6 t6_4) 7 t7_5) 8 t8_6) 9 t8_6) 10 t10_7) 11 t11_8) 12 t12_9) 13 t13_10) 14 t13_10) 15 t15_11) 16 t16_12) 17 t17_13) 18 t18_14) 19 t18_14) 20
  t20_15) 21 t21_16) 22 t22_17) 23 t23_18) 5 t23_18) 25 t25_22) 26 t26_23) 27 a0) 28 t28_24) 29 t29_25) 30 t30_26) 31 t31_27) 32 t32_28) 33 t33_29) 34 t34_30) 24 t34_30)
  36 a0) 37 t37_33) 38 t38_34) 39 t39_35) 40 t40_36) 41 t41_37) 42 t42_38) 43 t43_39) 44 t44_40) 45 t45_41) 35 t45_41) 4 (.int .i64 3)) H) (fun Q43 => run S (.fad 0 (.c
  t3_1)) [] H fun t47_44 H => run S (.ld (.c t47_44)) [] H fun t48_45 H => run S (.bin .eql (.c t48_45) (.c (.int .i64 2))) [] H fun t49_46 H => cnd t49_46 (fun Q47 =>
  run S (.ldn 5 (.c t3_1)) [] H fun t51_49 H => run S (.call 80 [(.c a0), (.c t51_49)]) [] H fun t52_50 H => Q47 .ret (upd (upd (upd (upd (upd (upd (upd (upd (upd (upd
  (upd (upd (upd (upd (upd (upd (upd (upd (upd (upd (upd (upd (upd (upd (upd (upd (upd (upd (upd (upd (upd (upd (upd (upd (upd (upd (upd (upd (upd (upd (upd (upd (upd
  (upd (upd (upd (upd (upd (upd (upd (upd (Env.get [a0, a1]) 3 t3_1) 4 (.int .i64 0)) 6 t6_4) 7 t7_5) 8 t8_6) 9 t8_6) 10 t10_7) 11 t11_8) 12 t12_9) 13 t13_10) 14 t13_10)
  15 t15_11) 16 t16_12) 17 t17_13) 18 t18_14) 19 t18_14) 20 t20_15) 21 t21_16) 22 t22_17) 23 t23_18) 5 t23_18) 25 t25_22) 26 t26_23) 27 a0) 28 t28_24) 29 t29_25) 30
  t30_26) 31 t31_27) 32 t32_28) 33 t33_29) 34 t34_30) 24 t34_30) 36 a0) 37 t37_33) 38 t38_34) 39 t39_35) 40 t40_36) 41 t41_37) 42 t42_38) 43 t43_39) 44 t44_40) 45
  t45_41) 35 t45_41) 47 t47_44) 48 t48_45) 49 t49_46) 46 t49_46) 50 a0) 51 t51_49) 52 t52_50) 4 t52_50) H) (fun Q48 => Q48 .normal (upd (upd (upd (upd (upd (upd (upd
  (upd (upd (upd (upd (upd (upd (upd (upd (upd (upd (upd (upd (upd (upd (upd (upd (upd (upd (upd (upd (upd (upd (upd (upd (upd (upd (upd (upd (upd (upd (upd (upd (upd
  (upd (upd (upd (upd (upd (upd (upd (Env.get [a0, a1]) 3 t3_1) 4 (.int .i64 0)) 6 t6_4) 7 t7_5) 8 t8_6) 9 t8_6) 10 t10_7) 11 t11_8) 12 t12_9) 13 t13_10) 14 t13_10) 15
  t15_11) 16 t16_12) 17 t17_13) 18 t18_14) 19 t18_14) 20 t20_15) 21 t21_16) 22 t22_17) 23 t23_18) 5 t23_18) 25 t25_22) 26 t26_23) 27 a0) 28 t28_24) 29 t29_25) 30 t30_26)
  31 t31_27) 32 t32_28) 33 t33_29) 34 t34_30) 24 t34_30) 36 a0) 37 t37_33) 38 t38_34) 39 t39_35) 40 t40_36) 41 t41_37) 42 t42_38) 43 t43_39) 44 t44_40) 45 t45_41) 35
  t45_41) 47 t47_44) 48 t48_45) 49 t49_46) 46 t49_46) H) Q43) Q32) Q21) Q19
theorem h49 (S : Sys) (a0 a1 : Value) (H : Heap) (R : Kv) : wpC S k49.body (Env.get [a0, a1]) H (fn [(.t 4)] R) = s49 S a0 a1 H R := by kernel_rfl
theorem w49 {S : Sys} (hR : S.R 49 = none) (hF : S.F 49 = some k49) (a0 a1 : Value) {H : Heap} {R : Kv} (h : s49 S a0 a1 H R) : Wf S 49 [a0, a1] H R := Wf_sh hR hF ((h49
  S a0 a1 H R).mpr h)
def s50 (S : Sys) (a0 a1 : Value) (H : Heap) (R : Kv) : Prop := run S (.box 74 (.c a1)) [] H fun t3_1 H => run S (.nck (.c a0)) [] H fun t5_2 H => run S (.fad 0 (.c
  t5_2)) [] H fun t6_3 H => run S (.ld (.c t6_3)) [] H fun t7_4 H => run S (.fad 1 (.c t3_1)) [] H fun t8_5 H => run S (.ld (.c t8_5)) [] H fun t9_6 H => run S (.nck (.c
  a0)) [] H fun t11_7 H => run S (.fad 0 (.c t11_7)) [] H fun t12_8 H => run S (.ld (.c t12_8)) [] H fun t13_9 H => run S (.fad 1 (.c t3_1)) [] H fun t14_10 H => run S
  (.ld (.c t14_10)) [] H fun t15_11 H => run S (.lkp (.s .int) (.int .i64 0) false (.c t13_9) (.c t15_11)) [] H fun t16_12 H => run S (.fad 2 (.c t3_1)) [] H fun t17_13
  H => run S (.ld (.c t17_13)) [] H fun t18_14 H => run S (.mx (.c t16_12) [(.c t18_14)]) [] H fun t19_15 H => run S (.mup (.s .int) (.c t7_4) (.c t9_6) (.c t19_15)) []
  H fun _ H => run S (.fad 0 (.c t3_1)) [] H fun t20_16 H => run S (.ld (.c t20_16)) [] H fun t21_17 H => run S (.bin .eql (.c t21_17) (.c (.int .i64 1))) [] H fun
  t23_18 H => jn (blk 0 (fn [] R)) fun Q19 => cnd t23_18 (fun Q20 => run S (.nck (.c a0)) [] H fun t25_22 H => run S (.fad 2 (.c t25_22)) [] H fun t26_23 H => run S (.ld
  (.c t26_23)) [] H fun t27_24 H => run S (.ldn 5 (.c t3_1)) [] H fun t28_25 H => run S (.fad 4 (.c t3_1)) [] H fun t30_26 H => run S (.ld (.c t30_26)) [] H fun t31_27 H
  => run S (.call 81 [(.c t28_25)]) [] H fun t29_28 H => ck (kop (.ld (.c t26_23)) [] H) t27_24 (ck (kop (.ld (.c t30_26)) [] H) t31_27 (run S (.mup (.agg [.int, .int,
  .int]) (.c t27_24) (.c t29_28) (.c t31_27)) [] H fun _ H => Q20 .normal (upd (upd (upd (upd (upd (upd (upd (upd (upd (upd (upd (upd (upd (upd (upd (upd (upd (upd (upd
  (upd (upd (upd (upd (upd (upd (upd (upd (upd (upd (Env.get [a0, a1]) 3 t3_1) 4 a0) 5 t5_2) 6 t6_3) 7 t7_4) 8 t8_5) 9 t9_6) 10 a0) 11 t11_7) 12 t12_8) 13 t13_9) 14
  t14_10) 15 t15_11) 16 t16_12) 17 t17_13) 18 t18_14) 19 t19_15) 20 t20_16) 21 t21_17) 23 t23_18) 22 t23_18) 24 a0) 25 t25_22) 26 t26_23) 27 t27_24) 28 t28_25) 30
  t30_26) 31 t31_27) 29 t29_28) H))) (fun Q21 => run S (.bin .eql (.c t21_17) (.c (.int .i64 2))) [] H fun t33_29 H => cnd t33_29 (fun Q30 => run S (.nck (.c a0)) [] H
  fun t35_32 H => run S (.fad 3 (.c t35_32)) [] H fun t36_33 H => run S (.ld (.c t36_33)) [] H fun t37_34 H => run S (.ldn 5 (.c t3_1)) [] H fun t38_35 H => run S (.call
  81 [(.c t38_35)]) [] H fun t39_36 H => ck (kop (.ld (.c t36_33)) [] H) t37_34 (run S (.mup (.agg [.int, .int, .int]) (.c t37_34) (.c t39_36) (.c (.bool true))) [] H
  fun _ H => Q30 .normal (upd (upd (upd (upd (upd (upd (upd (upd (upd (upd (upd (upd (upd (upd (upd (upd (upd (upd (upd (upd (upd (upd (upd (upd (upd (upd (upd (upd (upd
  (Env.get [a0, a1]) 3 t3_1) 4 a0) 5 t5_2) 6 t6_3) 7 t7_4) 8 t8_5) 9 t9_6) 10 a0) 11 t11_7) 12 t12_8) 13 t13_9) 14 t14_10) 15 t15_11) 16 t16_12) 17 t17_13) 18 t18_14) 19
  t19_15) 20 t20_16) 21 t21_17) 23 t23_18) 22 t23_18) 33 t33_29) 32 t33_29) 34 a0) 35 t35_32) 36 t36_33) 37 t37_34) 38 t38_35) 39 t39_36) H)) (fun Q31 => run S (.bin
  .eql (.c t21_17) (.c (.int .i64 3))) [] H fun t41_37 H => cnd t41_37 (fun Q38 => run S (.nck (.c a0)) [] H fun t43_40 H => run S (.fad 1 (.c t43_40)) [] H fun t44_41 H
  => run S (.ld (.c t44_41)) [] H fun t45_42 H => run S (.fad 1 (.c t3_1)) [] H fun t46_43 H => run S (.ld (.c t46_43)) [] H fun t47_44 H => run S (.fad 2 (.c t3_1)) []
  H fun t48_45 H => run S (.ld (.c t48_45)) [] H fun t49_46 H => run S (.build [(.int .i64 0), (.int .i64 0)] [(0, (1, (.c t47_44))), (1, (1, (.c t49_46)))]) [] H fun
  t50_47 H => run S (.mup (.agg [.int, .int]) (.c t45_42) (.c t50_47) (.c (.bool true))) [] H fun _ H => Q38 .normal (upd (upd (upd (upd (upd (upd (upd (upd (upd (upd
  (upd (upd (upd (upd (upd (upd (upd (upd (upd (upd (upd (upd (upd (upd (upd (upd (upd (upd (upd (upd (upd (upd (upd (upd (Env.get [a0, a1]) 3 t3_1) 4 a0) 5 t5_2) 6
  t6_3) 7 t7_4) 8 t8_5) 9 t9_6) 10 a0) 11 t11_7) 12 t12_8) 13 t13_9) 14 t14_10) 15 t15_11) 16 t16_12) 17 t17_13) 18 t18_14) 19 t19_15) 20 t20_16) 21 t21_17) 23 t23_18)
  22 t23_18) 33 t33_29) 32 t33_29) 41 t41_37) 40 t41_37) 42 a0) 43 t43_40) 44 t44_41) 45 t45_42) 46 t46_43) 47 t47_44) 48 t48_45) 49 t49_46) 50 t50_47) H) (fun Q39 =>
  Q39 .normal (upd (upd (upd (upd (upd (upd (upd (upd (upd (upd (upd (upd (upd (upd (upd (upd (upd (upd (upd (upd (upd (upd (upd (upd (upd (Env.get [a0, a1]) 3 t3_1) 4
  a0) 5 t5_2) 6 t6_3) 7 t7_4) 8 t8_5) 9 t9_6) 10 a0) 11 t11_7) 12 t12_8) 13 t13_9) 14 t14_10) 15 t15_11) 16 t16_12) 17 t17_13) 18 t18_14) 19 t19_15) 20 t20_16) 21
  t21_17) 23 t23_18) 22 t23_18) 33 t33_29) 32 t33_29) 41 t41_37) 40 t41_37) H) Q31) Q21) Q19
theorem h50 (S : Sys) (a0 a1 : Value) (H : Heap) (R : Kv) : wpC S k50.body (Env.get [a0, a1]) H (fn [] R) = s50 S a0 a1 H R := by kernel_rfl
theorem w50 {S : Sys} (hR : S.R 50 = none) (hF : S.F 50 = some k50) (a0 a1 : Value) {H : Heap} {R : Kv} (h : s50 S a0 a1 H R) : Wf S 50 [a0, a1] H R := Wf_sh hR hF ((h50
  S a0 a1 H R).mpr h)
def s51 (S : Sys) (a0 a1 : Value) (H : Heap) (R : Kv) : Prop := run S (.box 74 (.c a0)) [] H fun t2_1 H => run S (.box 74 (.c a1)) [] H fun t3_2 H => run S (.fad 1 (.c
  t2_1)) [] H fun t5_3 H => run S (.ld (.c t5_3)) [] H fun t6_4 H => run S (.fad 1 (.c t3_2)) [] H fun t7_5 H => run S (.ld (.c t7_5)) [] H fun t8_6 H => run S (.bin
  .eql (.c t6_4) (.c t8_6)) [] H fun t9_7 H => gd t9_7 true (run S (.fad 2 (.c t2_1)) [] H) H fun t11_8 H => gd t9_7 true (run S (.ld (.c t11_8)) [] H) H fun t12_9 H =>
  gd t9_7 true (run S (.fad 2 (.c t3_2)) [] H) H fun t13_10 H => gd t9_7 true (run S (.ld (.c t13_10)) [] H) H fun t14_11 H => gd t9_7 true (run S (.bin .eql (.c t12_9)
  (.c t14_11)) [] H) H fun t15_12 H => run S (.pick (.c t9_7) (.c t15_12) (.c (.bool false))) [] H fun t16_13 H => gd t16_13 true (run S (.fad 3 (.c t2_1)) [] H) H fun
  t18_14 H => gd t16_13 true (run S (.ld (.c t18_14)) [] H) H fun t19_15 H => gd t16_13 true (run S (.fad 3 (.c t3_2)) [] H) H fun t20_16 H => gd t16_13 true (run S (.ld
  (.c t20_16)) [] H) H fun t21_17 H => gd t16_13 true (run S (.bin .eql (.c t19_15) (.c t21_17)) [] H) H fun t22_18 H => run S (.pick (.c t16_13) (.c t22_18) (.c (.bool
  false))) [] H fun t23_19 H => R t23_19 H
theorem h51 (S : Sys) (a0 a1 : Value) (H : Heap) (R : Kv) : wpC S k51.body (Env.get [a0, a1]) H (fn [(.t 4)] R) = s51 S a0 a1 H R := by kernel_rfl
theorem w51 {S : Sys} (hR : S.R 51 = none) (hF : S.F 51 = some k51) (a0 a1 : Value) {H : Heap} {R : Kv} (h : s51 S a0 a1 H R) : Wf S 51 [a0, a1] H R := Wf_sh hR hF ((h51
  S a0 a1 H R).mpr h)
def s80 (S : Sys) (a0 a1 : Value) (H : Heap) (R : Kv) : Prop := run S (.box 74 (.c a1)) [] H fun t3_1 H => run S (.nck (.c a0)) [] H fun t9_2 H => run S (.fad 2 (.c
  t9_2)) [] H fun t10_3 H => run S (.ld (.c t10_3)) [] H fun t11_4 H => run S (.ldn 5 (.c t3_1)) [] H fun t12_5 H => run S (.call 81 [(.c t12_5)]) [] H fun t13_6 H => ck
  (kop (.ld (.c t10_3)) [] H) t11_4 (run S (.lkp (.agg [.int, .int, .int]) (.string (bs [])) true (.c t11_4) (.c t13_6)) [] H fun t14_7 H => run S (.xt (.c t14_7) 0) []
  H fun t15_8 H => run S (.xt (.c t14_7) 1) [] H fun t16_9 H => jn (sq (fun e11 H => R (.int .i64 0) H) (fn [(.t 4)] R)) fun Q10 => run S (.un .not (.c t16_9)) [] H fun
  t19_12 H => jn (blk 0 Q10) fun Q13 => cnd t19_12 (fun Q14 => Q14 .ret (upd (upd (upd (upd (upd (upd (upd (upd (upd (upd (upd (upd (upd (upd (upd (upd (upd (upd
  (Env.get [a0, a1]) 3 t3_1) 4 (.int .i64 0)) 8 a0) 9 t9_2) 10 t10_3) 11 t11_4) 12 t12_5) 13 t13_6) 14 t14_7) 7 t14_7) 15 t15_8) 16 t16_9) 5 t15_8) 6 t16_9) 18 t16_9) 19
  t19_12) 17 t19_12) 4 (.int .i64 4)) H) (fun Q15 => run S (.fad 4 (.c t3_1)) [] H fun t22_16 H => run S (.ld (.c t22_16)) [] H fun t23_17 H => run S (.bin .neq (.c
  t15_8) (.c t23_17)) [] H fun t24_18 H => cnd t24_18 (fun Q19 => Q19 .ret (upd (upd (upd (upd (upd (upd (upd (upd (upd (upd (upd (upd (upd (upd (upd (upd (upd (upd (upd
  (upd (upd (upd (upd (Env.get [a0, a1]) 3 t3_1) 4 (.int .i64 0)) 8 a0) 9 t9_2) 10 t10_3) 11 t11_4) 12 t12_5) 13 t13_6) 14 t14_7) 7 t14_7) 15 t15_8) 16 t16_9) 5 t15_8) 6
  t16_9) 18 t16_9) 19 t19_12) 17 t19_12) 21 t15_8) 22 t22_16) 23 t23_17) 24 t24_18) 20 t24_18) 4 (.int .i64 5)) H) (fun Q20 => run S (.nck (.c a0)) [] H fun t27_21 H =>
  run S (.fad 3 (.c t27_21)) [] H fun t28_22 H => run S (.ld (.c t28_22)) [] H fun t29_23 H => run S (.ldn 5 (.c t3_1)) [] H fun t30_24 H => run S (.call 81 [(.c
  t30_24)]) [] H fun t31_25 H => ck (kop (.ld (.c t28_22)) [] H) t29_23 (run S (.lkp (.agg [.int, .int, .int]) (.bool false) false (.c t29_23) (.c t31_25)) [] H fun
  t32_26 H => cnd t32_26 (fun Q27 => Q27 .ret (upd (upd (upd (upd (upd (upd (upd (upd (upd (upd (upd (upd (upd (upd (upd (upd (upd (upd (upd (upd (upd (upd (upd (upd
  (upd (upd (upd (upd (upd (upd (upd (Env.get [a0, a1]) 3 t3_1) 4 (.int .i64 0)) 8 a0) 9 t9_2) 10 t10_3) 11 t11_4) 12 t12_5) 13 t13_6) 14 t14_7) 7 t14_7) 15 t15_8) 16
  t16_9) 5 t15_8) 6 t16_9) 18 t16_9) 19 t19_12) 17 t19_12) 21 t15_8) 22 t22_16) 23 t23_17) 24 t24_18) 20 t24_18) 26 a0) 27 t27_21) 28 t28_22) 29 t29_23) 30 t30_24) 31
  t31_25) 32 t32_26) 25 t32_26) 4 (.int .i64 6)) H) (fun Q28 => Q28 .normal (upd (upd (upd (upd (upd (upd (upd (upd (upd (upd (upd (upd (upd (upd (upd (upd (upd (upd
  (upd (upd (upd (upd (upd (upd (upd (upd (upd (upd (upd (upd (Env.get [a0, a1]) 3 t3_1) 4 (.int .i64 0)) 8 a0) 9 t9_2) 10 t10_3) 11 t11_4) 12 t12_5) 13 t13_6) 14 t14_7)
  7 t14_7) 15 t15_8) 16 t16_9) 5 t15_8) 6 t16_9) 18 t16_9) 19 t19_12) 17 t19_12) 21 t15_8) 22 t22_16) 23 t23_17) 24 t24_18) 20 t24_18) 26 a0) 27 t27_21) 28 t28_22) 29
  t29_23) 30 t30_24) 31 t31_25) 32 t32_26) 25 t32_26) H) Q20)) Q15) Q13)
theorem h80 (S : Sys) (a0 a1 : Value) (H : Heap) (R : Kv) : wpC S k80.body (Env.get [a0, a1]) H (fn [(.t 4)] R) = s80 S a0 a1 H R := by kernel_rfl
theorem w80 {S : Sys} (hR : S.R 80 = none) (hF : S.F 80 = some k80) (a0 a1 : Value) {H : Heap} {R : Kv} (h : s80 S a0 a1 H R) : Wf S 80 [a0, a1] H R := Wf_sh hR hF ((h80
  S a0 a1 H R).mpr h)
def s81 (S : Sys) (a0 : Value) (H : Heap) (R : Kv) : Prop := run S (.box 74 (.c a0)) [] H fun t1_1 H => run S (.alloc 123 [(.int .i64 0), (.int .i64 0), (.int .i64 0)])
  [] H fun t2_2 H => run S (.fad 1 (.c t1_1)) [] H fun t3_3 H => run S (.ld (.c t3_3)) [] H fun t4_4 H => run S (.fad 2 (.c t1_1)) [] H fun t5_5 H => run S (.ld (.c
  t5_5)) [] H fun t6_6 H => run S (.fad 3 (.c t1_1)) [] H fun t7_7 H => run S (.ld (.c t7_7)) [] H fun t8_8 H => run S (.build [(.int .i64 0), (.int .i64 0), (.int .i64
  0)] [(0, (1, (.c t4_4))), (1, (1, (.c t6_6))), (2, (1, (.c t8_8)))]) [] H fun t9_9 H => run S (.stn 3 (.c t2_2) (.c t9_9)) [] H fun _ H => (fn [(.cn 2 3)] R) .ret (upd
  (upd (upd (upd (upd (upd (upd (upd (upd (Env.get [a0]) 1 t1_1) 2 t2_2) 3 t3_3) 4 t4_4) 5 t5_5) 6 t6_6) 7 t7_7) 8 t8_8) 9 t9_9) H
theorem h81 (S : Sys) (a0 : Value) (H : Heap) (R : Kv) : wpC S k81.body (Env.get [a0]) H (fn [(.cn 2 3)] R) = s81 S a0 H R := by kernel_rfl
theorem w81 {S : Sys} (hR : S.R 81 = none) (hF : S.F 81 = some k81) (a0 : Value) {H : Heap} {R : Kv} (h : s81 S a0 H R) : Wf S 81 [a0] H R := Wf_sh hR hF ((h81 S a0 H
  R).mpr h)
end Go.Proofs.Ytccjanieihlpcaa.K
