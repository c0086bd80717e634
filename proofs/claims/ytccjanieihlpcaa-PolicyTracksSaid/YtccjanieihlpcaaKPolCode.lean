/- The functions in K's language, each held against the given translation by the kernel. Printed by a program of this work (seat.py). -/
import Derived.Test.YtccjanieihlpcaaKSh
import Derived.Test.YtccjanieihlpcaaProg
set_option maxRecDepth 100000
set_option linter.unusedVariables false
namespace Go.Proofs.Ytccjanieihlpcaa.K
open Go Go.Proofs
def k24 : KFunc := ⟨40, (.seq (.reg [(.op (some 0) none (.mv (.c (.bool false))))]) (.seq (.reg [(.op (some 4) none (.call 25 [(.c (.int .i64 2))])), (.op (some 1) none (.mv
  (.t 4)))]) (.seq (.reg [(.op (some 5) none (.mv (.t 1))), (.op (some 6) none (.call 26 [(.t 5), (.c (.int .i64 1)), (.c (.int .i64 3))])), (.op (some 2) none (.mv (.t 6)))])
  (.seq (.reg [(.op (some 7) none (.mv (.t 1))), (.op (some 8) none (.call 34 [(.t 7), (.c (.int .i64 5))])), (.op (some 3) none (.mv (.t 8)))]) (.seq (.reg [(.op (some 9) none
  (.mv (.t 2))), (.op (some 10) none (.mv (.t 9))), (.op (some 11) (some (10, true)) (.mv (.t 1))), (.op (some 12) (some (10, true)) (.call 27 [(.t 11), (.c (.int .i64 1)), (.c
  (.int .i64 5))])), (.op (some 13) (some (10, true)) (.bin .eql (.t 12) (.c (.int .i64 2)))), (.op (some 14) none (.pick (.t 10) (.t 13) (.c (.bool false)))), (.op (some 15) none
  (.mv (.t 14))), (.op (some 16) (some (15, true)) (.mv (.t 1))), (.op (some 17) (some (15, true)) (.call 31 [(.t 16)])), (.op (some 18) (some (15, true)) (.bin .eql (.t 17) (.c
  (.int .i64 0)))), (.op (some 19) none (.pick (.t 15) (.t 18) (.c (.bool false)))), (.op (some 20) none (.mv (.t 19))), (.op (some 21) (some (20, true)) (.mv (.t 1))),
  (.op (some 22) (some (20, true)) (.call 32 [(.t 21)])), (.op (some 23) (some (20, true)) (.bin .eql (.t 22) (.c (.int .i64 3)))), (.op (some 24) none (.pick (.t 20) (.t 23) (.c
  (.bool false)))), (.op (some 25) none (.mv (.t 24))), (.op (some 26) (some (25, true)) (.mv (.t 3))), (.op (some 27) (some (25, true)) (.lenL (.t 26))),
  (.op (some 28) (some (25, true)) (.bin .eql (.t 27) (.c (.int .i64 2)))), (.op (some 29) none (.pick (.t 25) (.t 28) (.c (.bool false)))), (.op (some 30) none (.mv (.t 29))),
  (.op (some 31) (some (30, true)) (.mv (.t 3))), (.op (some 32) (some (30, true)) (.iad 1 (.t 31) (.c (.int .i64 0)))), (.op (some 33) (some (30, true)) (.ld (.t 32))),
  (.op (some 34) (some (30, true)) (.bin .eql (.t 33) (.c (.int .i64 2)))), (.op (some 35) none (.pick (.t 30) (.t 34) (.c (.bool false)))), (.op (some 36) none (.mv (.t 35))),
  (.op (some 37) (some (36, true)) (.call 36 [(.c (.int .i64 9)), (.c (.int .i64 10)), (.c (.int .i64 3))])), (.op (some 38) (some (36, true)) (.bin .eql (.t 37) (.c
  (.int .i64 7)))), (.op (some 39) none (.pick (.t 36) (.t 38) (.c (.bool false)))), (.op (some 0) none (.mv (.t 39)))]) .ret))))), [(.t 0)]⟩
def k25 : KFunc := ⟨9, (.seq (.reg [(.op (some 2) none (.mv (.c (.pointer none))))]) (.seq (.reg [(.op (some 3) none (.mv (.t 0))), (.op (some 4) none (.mx (.t 3) [(.c
  (.int .i64 1))])), (.op (some 5) none (.mn (.t 4) [(.c (.int .i64 16))])), (.op (some 6) none (.mks 3 [(.int .i64 0)] 8 (.t 5) (.t 5))), (.op (some 7) none
  (.build [(.slice none 0 0)] [(0, (1, (.t 6)))])), (.op (some 8) none (.box 98 (.t 7))), (.op (some 2) none (.mv (.t 8)))]) .ret)), [(.t 2)]⟩
def k26 : KFunc := ⟨27, (.seq (.reg [(.op (some 6) none (.mv (.c (.bool false))))]) (.seq (.seq (.reg [(.op (some 7) none (.mv (.t 0))), (.op (some 8) none (.mv (.t 1))),
  (.op (some 9) none (.call 62 [(.t 7), (.t 8)])), (.op (some 10) none (.un .not (.t 9))), (.op (some 11) none (.mv (.t 10))), (.op (some 12) (some (11, false)) (.mv (.t 2))),
  (.op (some 13) (some (11, false)) (.bin .lss (.t 12) (.c (.int .i64 0)))), (.op (some 14) none (.pick (.t 11) (.c (.bool true)) (.t 13))), (.op (some 15) none (.mv (.t 14))),
  (.op (some 16) (some (15, false)) (.mv (.t 2))), (.op (some 17) (some (15, false)) (.bin .gtr (.t 16) (.c (.int .i64 400)))), (.op (some 18) none (.pick (.t 15) (.c
  (.bool true)) (.t 17)))]) (.cond (.t 18) (.seq (.reg [(.op (some 6) none (.mv (.c (.bool false))))]) .ret) .skip)) (.seq (.reg [(.op (some 19) none (.mv (.t 0))),
  (.op (some 20) none (.nck (.t 19))), (.op (some 21) none (.fad 0 (.t 20))), (.op (some 22) none (.ld (.t 21))), (.op (some 23) none (.mv (.t 1))), (.op (some 24) none (.bin .sub
  (.t 23) (.c (.int .i64 1)))), (.op (some 25) none (.mv (.t 2))), (.op (some 26) none (.iad 1 (.t 22) (.t 24))), (.op none none (.st (.t 26) (.t 25)))]) (.seq
  (.reg [(.op (some 6) none (.mv (.c (.bool true))))]) .ret)))), [(.t 6)]⟩
def k27 : KFunc := ⟨21, (.seq (.reg [(.op (some 6) none (.mv (.c (.int .i64 0))))]) (.seq (.seq (.reg [(.op (some 7) none (.mv (.t 0))), (.op (some 8) none (.mv (.t 1))),
  (.op (some 9) none (.call 62 [(.t 7), (.t 8)])), (.op (some 10) none (.un .not (.t 9))), (.op (some 11) none (.mv (.t 10))), (.op (some 12) (some (11, false)) (.mv (.t 2))),
  (.op (some 13) (some (11, false)) (.bin .lss (.t 12) (.c (.int .i64 0)))), (.op (some 14) none (.pick (.t 11) (.c (.bool true)) (.t 13)))]) (.cond (.t 14) (.seq
  (.reg [(.op (some 6) none (.mv (.c (.int .i64 0))))]) .ret) .skip)) (.seq (.reg [(.op (some 15) none (.mv (.t 2))), (.op (some 16) none (.mv (.t 0))), (.op (some 17) none (.mv
  (.t 1))), (.op (some 18) none (.call 29 [(.t 16), (.t 17)])), (.op (some 19) none (.bin .sub (.t 15) (.t 18))), (.op (some 20) none (.mx (.t 19) [(.c (.int .i64 0))])),
  (.op (some 6) none (.mv (.t 20)))]) .ret))), [(.t 6)]⟩
def k28 : KFunc := ⟨31, (.seq (.reg [(.op (some 6) none (.mv (.c (.int .i64 0))))]) (.seq (.seq (.reg [(.op (some 7) none (.mv (.t 1))), (.op (some 8) none (.bin .lss (.t 7) (.c
  (.int .i64 1)))), (.op (some 9) none (.mv (.t 8))), (.op (some 10) (some (9, false)) (.mv (.t 1))), (.op (some 11) (some (9, false)) (.mv (.t 0))), (.op (some 12) (some (9,
  false)) (.lenL (.t 11))), (.op (some 13) (some (9, false)) (.bin .gtr (.t 10) (.t 12))), (.op (some 14) none (.pick (.t 9) (.c (.bool true)) (.t 13))), (.op (some 15) none (.mv
  (.t 14))), (.op (some 16) (some (15, false)) (.mv (.t 2))), (.op (some 17) (some (15, false)) (.mv (.t 0))), (.op (some 18) (some (15, false)) (.mv (.t 1))),
  (.op (some 19) (some (15, false)) (.bin .sub (.t 18) (.c (.int .i64 1)))), (.op (some 20) (some (15, false)) (.iad 1 (.t 17) (.t 19))), (.op (some 21) (some (15, false)) (.ld
  (.t 20))), (.op (some 22) (some (15, false)) (.bin .leq (.t 16) (.t 21))), (.op (some 23) none (.pick (.t 15) (.c (.bool true)) (.t 22)))]) (.cond (.t 23) (.seq
  (.reg [(.op (some 6) none (.mv (.c (.int .i64 0))))]) .ret) .skip)) (.seq (.reg [(.op (some 24) none (.mv (.t 2))), (.op (some 25) none (.mv (.t 0))), (.op (some 26) none (.mv
  (.t 1))), (.op (some 27) none (.bin .sub (.t 26) (.c (.int .i64 1)))), (.op (some 28) none (.iad 1 (.t 25) (.t 27))), (.op (some 29) none (.ld (.t 28))), (.op (some 30) none
  (.bin .sub (.t 24) (.t 29))), (.op (some 6) none (.mv (.t 30)))]) .ret))), [(.t 6)]⟩
def k29 : KFunc := ⟨17, (.seq (.reg [(.op (some 4) none (.mv (.c (.int .i64 0))))]) (.seq (.seq (.reg [(.op (some 5) none (.mv (.t 0))), (.op (some 6) none (.mv (.t 1))),
  (.op (some 7) none (.call 62 [(.t 5), (.t 6)])), (.op (some 8) none (.un .not (.t 7)))]) (.cond (.t 8) (.seq (.reg [(.op (some 4) none (.mv (.c (.int .i64 0))))]) .ret) .skip))
  (.seq (.reg [(.op (some 9) none (.mv (.t 0))), (.op (some 10) none (.nck (.t 9))), (.op (some 11) none (.fad 0 (.t 10))), (.op (some 12) none (.ld (.t 11))), (.op (some 13) none
  (.mv (.t 1))), (.op (some 14) none (.bin .sub (.t 13) (.c (.int .i64 1)))), (.op (some 15) none (.iad 1 (.t 12) (.t 14))), (.op (some 16) none (.ld (.t 15))), (.op (some 4) none
  (.mv (.t 16)))]) .ret))), [(.t 4)]⟩
def k30 : KFunc := ⟨10, (.seq (.reg [(.op (some 2) none (.mv (.c (.int .i64 0))))]) (.seq (.seq (.reg [(.op (some 3) none (.mv (.t 0))), (.op (some 4) none (.eqv .ptr false (.t 3)
  (.c (.pointer none))))]) (.cond (.t 4) (.seq (.reg [(.op (some 2) none (.mv (.c (.int .i64 0))))]) .ret) .skip)) (.seq (.reg [(.op (some 5) none (.mv (.t 0))),
  (.op (some 6) none (.nck (.t 5))), (.op (some 7) none (.fad 0 (.t 6))), (.op (some 8) none (.ld (.t 7))), (.op (some 9) none (.lenL (.t 8))), (.op (some 2) none (.mv
  (.t 9)))]) .ret))), [(.t 2)]⟩
def k31 : KFunc := ⟨11, (.seq (.reg [(.op (some 2) none (.mv (.c (.int .i64 0))))]) (.seq (.seq (.reg [(.op (some 3) none (.mv (.t 0))), (.op (some 4) none (.call 30 [(.t 3)])),
  (.op (some 5) none (.bin .eql (.t 4) (.c (.int .i64 0))))]) (.cond (.t 5) (.seq (.reg [(.op (some 2) none (.mv (.c (.int .i64 0))))]) .ret) .skip)) (.seq
  (.reg [(.op (some 6) none (.mv (.t 0))), (.op (some 7) none (.nck (.t 6))), (.op (some 8) none (.fad 0 (.t 7))), (.op (some 9) none (.ld (.t 8))), (.op (some 10) none
  (.call 63 [(.t 9)])), (.op (some 2) none (.mv (.t 10)))]) .ret))), [(.t 2)]⟩
def k32 : KFunc := ⟨11, (.seq (.reg [(.op (some 2) none (.mv (.c (.int .i64 0))))]) (.seq (.seq (.reg [(.op (some 3) none (.mv (.t 0))), (.op (some 4) none (.call 30 [(.t 3)])),
  (.op (some 5) none (.bin .eql (.t 4) (.c (.int .i64 0))))]) (.cond (.t 5) (.seq (.reg [(.op (some 2) none (.mv (.c (.int .i64 0))))]) .ret) .skip)) (.seq
  (.reg [(.op (some 6) none (.mv (.t 0))), (.op (some 7) none (.nck (.t 6))), (.op (some 8) none (.fad 0 (.t 7))), (.op (some 9) none (.ld (.t 8))), (.op (some 10) none
  (.call 64 [(.t 9)])), (.op (some 2) none (.mv (.t 10)))]) .ret))), [(.t 2)]⟩
def k33 : KFunc := ⟨26, (.seq (.reg [(.op (some 4) none (.mv (.c (.bool false))))]) (.seq (.seq (.reg [(.op (some 6) none (.mv (.t 0))), (.op (some 7) none (.lenL (.t 6))),
  (.op (some 8) none (.mv (.t 1))), (.op (some 9) none (.lenL (.t 8))), (.op (some 10) none (.bin .neq (.t 7) (.t 9)))]) (.cond (.t 10) (.seq (.reg [(.op (some 4) none (.mv (.c
  (.bool false))))]) .ret) .skip)) (.seq (.seq (.reg [(.op (some 11) none (.mv (.t 0))), (.op (some 12) none (.lenL (.t 11))), (.op (some 13) none (.mv (.c (.int .i64 0))))])
  (.block 0 (.loop (.seq (.reg [(.op (some 14) none (.bin .lss (.t 13) (.t 12)))]) (.seq (.cond (.t 14) .skip (.exit 0)) (.seq (.block 1 (.seq (.reg [(.op (some 15) none (.mv
  (.t 13))), (.op (some 5) none (.mv (.t 15)))]) (.seq (.reg [(.op (some 16) none (.mv (.t 0))), (.op (some 17) none (.mv (.t 5))), (.op (some 18) none (.iad 1 (.t 16) (.t 17))),
  (.op (some 19) none (.ld (.t 18))), (.op (some 20) none (.mv (.t 1))), (.op (some 21) none (.mv (.t 5))), (.op (some 22) none (.iad 1 (.t 20) (.t 21))), (.op (some 23) none (.ld
  (.t 22))), (.op (some 24) none (.bin .neq (.t 19) (.t 23)))]) (.cond (.t 24) (.seq (.reg [(.op (some 4) none (.mv (.c (.bool false))))]) .ret) .skip))))
  (.reg [(.op (some 25) none (.bin .add (.t 13) (.c (.int .i64 1)))), (.op (some 13) none (.mv (.t 25)))]))))))) (.seq (.reg [(.op (some 4) none (.mv (.c
  (.bool true))))]) .ret)))), [(.t 4)]⟩
def k34 : KFunc := ⟨28, (.seq (.reg [(.op (some 2) none (.box 48 (.t 0))), (.op (some 3) none (.box 3 (.t 1))), (.op (some 4) none (.mv (.c (.slice none 0 0))))]) (.seq
  (.reg [(.op (some 5) none (.mv (.c (.slice none 0 0))))]) (.seq (.seq (.reg [(.op (some 7) none (.ld (.t 2))), (.op (some 8) none (.call 30 [(.t 7)])), (.op (some 9) none (.mv
  (.c (.int .i64 0))))]) (.block 0 (.loop (.seq (.reg [(.op (some 10) none (.bin .lss (.t 9) (.t 8)))]) (.seq (.cond (.t 10) .skip (.exit 0)) (.seq (.block 1 (.seq
  (.reg [(.op (some 11) none (.mv (.t 9))), (.op (some 6) none (.mv (.t 11)))]) (.seq (.reg [(.op (some 12) none (.ld (.t 2))), (.op (some 13) none (.mv (.t 6))),
  (.op (some 14) none (.bin .add (.t 13) (.c (.int .i64 1)))), (.op (some 15) none (.ld (.t 3))), (.op (some 16) none (.call 27 [(.t 12), (.t 14), (.t 15)])), (.op (some 17) none
  (.bin .gtr (.t 16) (.c (.int .i64 0))))]) (.cond (.t 17) (.reg [(.op (some 18) none (.mv (.t 5))), (.op (some 19) none (.mv (.t 6))), (.op (some 20) none (.bin .add (.t 19) (.c
  (.int .i64 1)))), (.op (some 21) none (.bsl 3 1 [(.int .i64 0)] [(0, (1, (.t 20)))])), (.op (some 22) none (.app 3 1 8 (.t 18) (.t 21))), (.op (some 5) none (.mv
  (.t 22)))]) .skip)))) (.reg [(.op (some 23) none (.bin .add (.t 9) (.c (.int .i64 1)))), (.op (some 9) none (.mv (.t 23)))]))))))) (.seq (.reg [(.op (some 24) none (.mv
  (.t 5))), (.op (some 25) none (.mkf (.func 66) [] [(.t 2), (.t 3)])), (.op (some 26) none (.call 65 [(.t 24), (.t 25)]))]) (.seq (.reg [(.op (some 27) none (.mv (.t 5))),
  (.op (some 4) none (.mv (.t 27)))]) .ret))))), [(.t 4)]⟩
def k35 : KFunc := ⟨29, (.seq (.reg [(.op (some 4) none (.mv (.c (.slice none 0 0))))]) (.seq (.reg [(.op (some 5) none (.mv (.c (.slice none 0 0))))]) (.seq (.seq
  (.reg [(.op (some 6) none (.mv (.c (.int .i64 400))))]) (.block 0 (.loop (.seq (.seq (.reg [(.op (some 8) none (.mv (.t 6))), (.op (some 9) none (.bin .gtr (.t 8) (.c
  (.int .i64 0))))]) (.cond (.t 9) .skip (.exit 0))) (.seq (.block 1 (.seq (.reg [(.op (some 7) none (.mv (.c (.int .i64 1))))]) (.block 2 (.loop (.seq (.seq
  (.reg [(.op (some 12) none (.mv (.t 7))), (.op (some 13) none (.mv (.t 0))), (.op (some 14) none (.lenL (.t 13))), (.op (some 15) none (.bin .leq (.t 12) (.t 14)))]) (.cond
  (.t 15) .skip (.exit 2))) (.seq (.block 3 (.seq (.reg [(.op (some 18) none (.mv (.t 0))), (.op (some 19) none (.mv (.t 7))), (.op (some 20) none (.mv (.t 1))),
  (.op (some 21) none (.call 28 [(.t 18), (.t 19), (.t 20)])), (.op (some 22) none (.mv (.t 6))), (.op (some 23) none (.bin .eql (.t 21) (.t 22)))]) (.cond (.t 23)
  (.reg [(.op (some 24) none (.mv (.t 5))), (.op (some 25) none (.mv (.t 7))), (.op (some 26) none (.bsl 3 1 [(.int .i64 0)] [(0, (1, (.t 25)))])), (.op (some 27) none (.app 3 1 8
  (.t 24) (.t 26))), (.op (some 5) none (.mv (.t 27)))]) .skip))) (.reg [(.op (some 16) none (.mv (.t 7))), (.op (some 17) none (.bin .add (.t 16) (.c (.int .i64 1)))),
  (.op (some 7) none (.mv (.t 17)))]))))))) (.reg [(.op (some 10) none (.mv (.t 6))), (.op (some 11) none (.bin .sub (.t 10) (.c (.int .i64 1)))), (.op (some 6) none (.mv
  (.t 11)))])))))) (.seq (.reg [(.op (some 28) none (.mv (.t 5))), (.op (some 4) none (.mv (.t 28)))]) .ret)))), [(.t 4)]⟩
def k36 : KFunc := ⟨19, (.seq (.reg [(.op (some 6) none (.mv (.c (.int .i64 0))))]) (.seq (.reg [(.op (some 7) none (.mv (.t 0))), (.op (some 8) none (.mx (.t 7) [(.c
  (.int .i64 0))])), (.op (some 9) none (.mv (.t 1))), (.op (some 10) none (.mx (.t 9) [(.c (.int .i64 0))])), (.op (some 11) none (.mv (.t 2))), (.op (some 12) none (.mx
  (.t 11) [(.c (.int .i64 0))])), (.op (some 0) none (.mv (.t 8))), (.op (some 1) none (.mv (.t 10))), (.op (some 2) none (.mv (.t 12)))]) (.seq (.reg [(.op (some 13) none (.mv
  (.t 0))), (.op (some 14) none (.mv (.t 1))), (.op (some 15) none (.mv (.t 2))), (.op (some 16) none (.bin .sub (.t 14) (.t 15))), (.op (some 17) none (.mx (.t 16) [(.c
  (.int .i64 0))])), (.op (some 18) none (.mn (.t 13) [(.t 17)])), (.op (some 6) none (.mv (.t 18)))]) .ret))), [(.t 6)]⟩
def k37 : KFunc := ⟨29, (.seq (.reg [(.op (some 6) none (.mv (.c (.int .i64 0))))]) (.seq (.seq (.reg [(.op (some 7) none (.mv (.t 0))), (.op (some 8) none (.bin .leq (.t 7) (.c
  (.int .i64 0)))), (.op (some 9) none (.mv (.t 8))), (.op (some 10) (some (9, false)) (.mv (.t 1))), (.op (some 11) (some (9, false)) (.bin .leq (.t 10) (.c (.int .i64 0)))),
  (.op (some 12) none (.pick (.t 9) (.c (.bool true)) (.t 11))), (.op (some 13) none (.mv (.t 12))), (.op (some 14) (some (13, false)) (.mv (.t 2))), (.op (some 15) (some (13,
  false)) (.mv (.t 1))), (.op (some 16) (some (13, false)) (.bin .geq (.t 14) (.t 15))), (.op (some 17) none (.pick (.t 13) (.c (.bool true)) (.t 16)))]) (.cond (.t 17) (.seq
  (.reg [(.op (some 6) none (.mv (.c (.int .i64 0))))]) .ret) .skip)) (.seq (.seq (.reg [(.op (some 18) none (.mv (.t 2))), (.op (some 19) none (.bin .lss (.t 18) (.c
  (.int .i64 0))))]) (.cond (.t 19) (.reg [(.op (some 2) none (.mv (.c (.int .i64 0))))]) .skip)) (.seq (.seq (.reg [(.op (some 20) none (.mv (.t 0))), (.op (some 21) none (.mv
  (.t 1))), (.op (some 22) none (.mv (.t 2))), (.op (some 23) none (.bin .sub (.t 21) (.t 22))), (.op (some 24) none (.bin .gtr (.t 20) (.t 23)))]) (.cond (.t 24) (.seq
  (.reg [(.op (some 25) none (.mv (.t 1))), (.op (some 26) none (.mv (.t 2))), (.op (some 27) none (.bin .sub (.t 25) (.t 26))), (.op (some 6) none (.mv (.t 27)))]) .ret) .skip))
  (.seq (.reg [(.op (some 28) none (.mv (.t 0))), (.op (some 6) none (.mv (.t 28)))]) .ret))))), [(.t 6)]⟩
def k38 : KFunc := ⟨21, (.seq (.reg [(.op (some 6) none (.mv (.c (.bool false))))]) (.seq (.seq (.reg [(.op (some 8) none (.mv (.t 2))), (.op (some 9) none (.bin .leq (.t 8) (.c
  (.int .i64 0))))]) (.cond (.t 9) (.seq (.reg [(.op (some 6) none (.mv (.c (.bool false))))]) .ret) .skip)) (.seq (.reg [(.op (some 7) none (.mv (.c (.func
  (.func 68) ([]).toArray ([]).toArray))))]) (.seq (.reg [(.op (some 10) none (.mv (.t 7))), (.op (some 11) none (.mv (.t 0))), (.op (some 12) none (.callv (.t 10) [(.t 11)])),
  (.op (some 13) none (.mv (.t 7))), (.op (some 14) none (.mv (.t 1))), (.op (some 15) none (.callv (.t 13) [(.t 14)])), (.op (some 16) none (.mv (.t 7))), (.op (some 17) none
  (.mv (.t 2))), (.op (some 18) none (.callv (.t 16) [(.t 17)])), (.op (some 19) none (.bin .add (.t 15) (.t 18))), (.op (some 20) none (.bin .geq (.t 12) (.t 19))),
  (.op (some 6) none (.mv (.t 20)))]) .ret)))), [(.t 6)]⟩
def k62 : KFunc := ⟨13, (.seq (.reg [(.op (some 4) none (.mv (.c (.bool false))))]) (.seq (.reg [(.op (some 5) none (.mv (.t 1))), (.op (some 6) none (.bin .geq (.t 5) (.c
  (.int .i64 1)))), (.op (some 7) none (.mv (.t 6))), (.op (some 8) (some (7, true)) (.mv (.t 1))), (.op (some 9) (some (7, true)) (.mv (.t 0))), (.op (some 10) (some (7, true))
  (.call 30 [(.t 9)])), (.op (some 11) (some (7, true)) (.bin .leq (.t 8) (.t 10))), (.op (some 12) none (.pick (.t 7) (.t 11) (.c (.bool false)))), (.op (some 4) none (.mv
  (.t 12)))]) .ret)), [(.t 4)]⟩
def k63 : KFunc := ⟨25, (.seq (.reg [(.op (some 2) none (.mv (.c (.int .i64 0))))]) (.seq (.seq (.reg [(.op (some 5) none (.mv (.t 0))), (.op (some 6) none (.lenL (.t 5))),
  (.op (some 7) none (.bin .lss (.t 6) (.c (.int .i64 1))))]) (.cond (.t 7) (.reg [(.op (some 8) none (.mki 9 (.c (.string (bs [115, 108, 105, 99, 101, 115, 46, 77, 105, 110, 58,
  32, 101, 109, 112, 116, 121, 32, 108, 105, 115, 116]))))), (.op none none .nev)]) .skip)) (.seq (.reg [(.op (some 9) none (.mv (.t 0))), (.op (some 10) none (.iad 1 (.t 9) (.c
  (.int .i64 0)))), (.op (some 11) none (.ld (.t 10))), (.op (some 3) none (.mv (.t 11)))]) (.seq (.seq (.reg [(.op (some 4) none (.mv (.c (.int .i64 1))))]) (.block 0 (.loop
  (.seq (.seq (.reg [(.op (some 12) none (.mv (.t 4))), (.op (some 13) none (.mv (.t 0))), (.op (some 14) none (.lenL (.t 13))), (.op (some 15) none (.bin .lss (.t 12) (.t 14)))])
  (.cond (.t 15) .skip (.exit 0))) (.seq (.block 1 (.reg [(.op (some 18) none (.mv (.t 3))), (.op (some 19) none (.mv (.t 0))), (.op (some 20) none (.mv (.t 4))),
  (.op (some 21) none (.iad 1 (.t 19) (.t 20))), (.op (some 22) none (.ld (.t 21))), (.op (some 23) none (.mn (.t 18) [(.t 22)])), (.op (some 3) none (.mv (.t 23)))]))
  (.reg [(.op (some 16) none (.mv (.t 4))), (.op (some 17) none (.bin .add (.t 16) (.c (.int .i64 1)))), (.op (some 4) none (.mv (.t 17)))])))))) (.seq (.reg [(.op (some 24) none
  (.mv (.t 3))), (.op (some 2) none (.mv (.t 24)))]) .ret))))), [(.t 2)]⟩
def k64 : KFunc := ⟨25, (.seq (.reg [(.op (some 2) none (.mv (.c (.int .i64 0))))]) (.seq (.seq (.reg [(.op (some 5) none (.mv (.t 0))), (.op (some 6) none (.lenL (.t 5))),
  (.op (some 7) none (.bin .lss (.t 6) (.c (.int .i64 1))))]) (.cond (.t 7) (.reg [(.op (some 8) none (.mki 9 (.c (.string (bs [115, 108, 105, 99, 101, 115, 46, 77, 97, 120, 58,
  32, 101, 109, 112, 116, 121, 32, 108, 105, 115, 116]))))), (.op none none .nev)]) .skip)) (.seq (.reg [(.op (some 9) none (.mv (.t 0))), (.op (some 10) none (.iad 1 (.t 9) (.c
  (.int .i64 0)))), (.op (some 11) none (.ld (.t 10))), (.op (some 3) none (.mv (.t 11)))]) (.seq (.seq (.reg [(.op (some 4) none (.mv (.c (.int .i64 1))))]) (.block 0 (.loop
  (.seq (.seq (.reg [(.op (some 12) none (.mv (.t 4))), (.op (some 13) none (.mv (.t 0))), (.op (some 14) none (.lenL (.t 13))), (.op (some 15) none (.bin .lss (.t 12) (.t 14)))])
  (.cond (.t 15) .skip (.exit 0))) (.seq (.block 1 (.reg [(.op (some 18) none (.mv (.t 3))), (.op (some 19) none (.mv (.t 0))), (.op (some 20) none (.mv (.t 4))),
  (.op (some 21) none (.iad 1 (.t 19) (.t 20))), (.op (some 22) none (.ld (.t 21))), (.op (some 23) none (.mx (.t 18) [(.t 22)])), (.op (some 3) none (.mv (.t 23)))]))
  (.reg [(.op (some 16) none (.mv (.t 4))), (.op (some 17) none (.bin .add (.t 16) (.c (.int .i64 1)))), (.op (some 4) none (.mv (.t 17)))])))))) (.seq (.reg [(.op (some 24) none
  (.mv (.t 3))), (.op (some 2) none (.mv (.t 24)))]) .ret))))), [(.t 2)]⟩
def k65 : KFunc := ⟨9, (.reg [(.op (some 4) none (.mv (.t 0))), (.op (some 5) none (.mv (.t 0))), (.op (some 6) none (.lenL (.t 5))), (.op (some 7) none (.mv (.t 1))),
  (.op (some 8) none (.call 89 [(.t 4), (.t 6), (.t 7)]))]), []⟩
def k66 : KFunc := ⟨16, (.seq (.reg [(.op (some 6) none (.mv (.c (.int .i64 0))))]) (.seq (.reg [(.op (some 7) none (.ld (.t 2))), (.op (some 8) none (.mv (.t 1))),
  (.op (some 9) none (.ld (.t 3))), (.op (some 11) none (.ld (.t 2))), (.op (some 12) none (.mv (.t 0))), (.op (some 13) none (.ld (.t 3))), (.op (some 10) none (.call 27 [(.t 7),
  (.t 8), (.t 9)])), (.chk 11 none (.ld (.t 2))), (.chk 13 none (.ld (.t 3))), (.op (some 14) none (.call 27 [(.t 11), (.t 12), (.t 13)])), (.op (some 15) none (.call 67 [(.t 10),
  (.t 14)])), (.op (some 6) none (.mv (.t 15)))]) .ret)), [(.t 6)]⟩
def k67 : KFunc := ⟨20, (.seq (.reg [(.op (some 4) none (.mv (.c (.int .i64 0))))]) (.seq (.reg [(.op (some 7) none (.mv (.t 0))), (.op (some 8) none (.call 90 [(.t 7)])),
  (.op (some 5) none (.mv (.t 8)))]) (.seq (.reg [(.op (some 9) none (.mv (.t 1))), (.op (some 10) none (.call 90 [(.t 9)])), (.op (some 6) none (.mv (.t 10)))]) (.seq (.seq
  (.reg [(.op (some 11) none (.mv (.t 5)))]) (.cond (.t 11) (.seq (.seq (.reg [(.op (some 12) none (.mv (.t 6)))]) (.cond (.t 12) (.seq (.reg [(.op (some 4) none (.mv (.c
  (.int .i64 0))))]) .ret) .skip)) (.seq (.reg [(.op (some 4) none (.mv (.c (.int .i64 (-1)))))]) .ret)) .skip)) (.seq (.seq (.reg [(.op (some 13) none (.mv (.t 6)))]) (.cond
  (.t 13) (.seq (.reg [(.op (some 4) none (.mv (.c (.int .i64 1))))]) .ret) .skip)) (.seq (.seq (.reg [(.op (some 14) none (.mv (.t 0))), (.op (some 15) none (.mv (.t 1))),
  (.op (some 16) none (.bin .lss (.t 14) (.t 15)))]) (.cond (.t 16) (.seq (.reg [(.op (some 4) none (.mv (.c (.int .i64 (-1)))))]) .ret) .skip)) (.seq (.seq
  (.reg [(.op (some 17) none (.mv (.t 0))), (.op (some 18) none (.mv (.t 1))), (.op (some 19) none (.bin .gtr (.t 17) (.t 18)))]) (.cond (.t 19) (.seq (.reg [(.op (some 4) none
  (.mv (.c (.int .i64 1))))]) .ret) .skip)) (.seq (.reg [(.op (some 4) none (.mv (.c (.int .i64 0))))]) .ret)))))))), [(.t 4)]⟩
def k68 : KFunc := ⟨6, (.seq (.reg [(.op (some 2) none (.mv (.c (.int .i64 0))))]) (.seq (.reg [(.op (some 3) none (.mv (.t 0))), (.op (some 4) none (.mx (.t 3) [(.c
  (.int .i64 0))])), (.op (some 5) none (.mn (.t 4) [(.c (.int .i64 1099511627776))])), (.op (some 2) none (.mv (.t 5)))]) .ret)), [(.t 2)]⟩
def k89 : KFunc := ⟨63, (.seq (.reg [(.op (some 6) none (.mv (.c (.int .i64 20))))]) (.seq (.reg [(.op (some 10) none (.mv (.t 6))), (.op (some 7) none (.mv (.c (.int .i64 0)))),
  (.op (some 8) none (.mv (.t 10)))]) (.seq (.block 0 (.loop (.seq (.seq (.reg [(.op (some 11) none (.mv (.t 8))), (.op (some 12) none (.mv (.t 1))), (.op (some 13) none
  (.bin .leq (.t 11) (.t 12)))]) (.cond (.t 13) .skip (.exit 0))) (.block 1 (.seq (.reg [(.op (some 14) none (.mv (.t 0))), (.op (some 15) none (.mv (.t 7))), (.op (some 16) none
  (.mv (.t 8))), (.op (some 17) none (.mv (.t 2))), (.op (some 18) none (.call 101 [(.t 14), (.t 15), (.t 16), (.t 17)]))]) (.seq (.reg [(.op (some 19) none (.mv (.t 8))),
  (.op (some 7) none (.mv (.t 19)))]) (.reg [(.op (some 20) none (.mv (.t 8))), (.op (some 21) none (.mv (.t 6))), (.op (some 22) none (.bin .add (.t 20) (.t 21))),
  (.op (some 8) none (.mv (.t 22)))]))))))) (.seq (.reg [(.op (some 23) none (.mv (.t 0))), (.op (some 24) none (.mv (.t 7))), (.op (some 25) none (.mv (.t 1))),
  (.op (some 26) none (.mv (.t 2))), (.op (some 27) none (.call 101 [(.t 23), (.t 24), (.t 25), (.t 26)]))]) (.block 2 (.loop (.seq (.seq (.reg [(.op (some 28) none (.mv (.t 6))),
  (.op (some 29) none (.mv (.t 1))), (.op (some 30) none (.bin .lss (.t 28) (.t 29)))]) (.cond (.t 30) .skip (.exit 2))) (.block 3 (.seq (.reg [(.op (some 31) none (.mv (.t 6))),
  (.op (some 32) none (.bin .mul (.c (.int .i64 2)) (.t 31))), (.op (some 7) none (.mv (.c (.int .i64 0)))), (.op (some 8) none (.mv (.t 32)))]) (.seq (.block 4 (.loop (.seq (.seq
  (.reg [(.op (some 33) none (.mv (.t 8))), (.op (some 34) none (.mv (.t 1))), (.op (some 35) none (.bin .leq (.t 33) (.t 34)))]) (.cond (.t 35) .skip (.exit 4))) (.block 5 (.seq
  (.reg [(.op (some 36) none (.mv (.t 0))), (.op (some 37) none (.mv (.t 7))), (.op (some 38) none (.mv (.t 7))), (.op (some 39) none (.mv (.t 6))), (.op (some 40) none (.bin .add
  (.t 38) (.t 39))), (.op (some 41) none (.mv (.t 8))), (.op (some 42) none (.mv (.t 2))), (.op (some 43) none (.call 102 [(.t 36), (.t 37), (.t 40), (.t 41), (.t 42)]))]) (.seq
  (.reg [(.op (some 44) none (.mv (.t 8))), (.op (some 7) none (.mv (.t 44)))]) (.reg [(.op (some 45) none (.mv (.t 8))), (.op (some 46) none (.mv (.t 6))), (.op (some 47) none
  (.bin .mul (.c (.int .i64 2)) (.t 46))), (.op (some 48) none (.bin .add (.t 45) (.t 47))), (.op (some 8) none (.mv (.t 48)))]))))))) (.seq (.seq (.reg [(.op (some 49) none (.mv
  (.t 7))), (.op (some 50) none (.mv (.t 6))), (.op (some 51) none (.bin .add (.t 49) (.t 50))), (.op (some 9) none (.mv (.t 51)))]) (.seq (.reg [(.op (some 52) none (.mv
  (.t 9))), (.op (some 53) none (.mv (.t 1))), (.op (some 54) none (.bin .lss (.t 52) (.t 53)))]) (.cond (.t 54) (.reg [(.op (some 55) none (.mv (.t 0))), (.op (some 56) none (.mv
  (.t 7))), (.op (some 57) none (.mv (.t 9))), (.op (some 58) none (.mv (.t 1))), (.op (some 59) none (.mv (.t 2))), (.op (some 60) none (.call 102 [(.t 55), (.t 56), (.t 57),
  (.t 58), (.t 59)]))]) .skip))) (.reg [(.op (some 61) none (.mv (.t 6))), (.op (some 62) none (.bin .mul (.t 61) (.c (.int .i64 2)))), (.op (some 6) none (.mv
  (.t 62)))])))))))))))), []⟩
def k90 : KFunc := ⟨6, (.seq (.reg [(.op (some 2) none (.mv (.c (.bool false))))]) (.seq (.reg [(.op (some 3) none (.mv (.t 0))), (.op (some 4) none (.mv (.t 0))),
  (.op (some 5) none (.bin .neq (.t 3) (.t 4))), (.op (some 2) none (.mv (.t 5)))]) .ret)), [(.t 2)]⟩
def k101 : KFunc := ⟨53, (.seq (.reg [(.op (some 10) none (.mv (.t 1))), (.op (some 11) none (.bin .add (.t 10) (.c (.int .i64 1)))), (.op (some 8) none (.mv (.t 11)))]) (.block 0
  (.loop (.seq (.seq (.reg [(.op (some 12) none (.mv (.t 8))), (.op (some 13) none (.mv (.t 2))), (.op (some 14) none (.bin .lss (.t 12) (.t 13)))]) (.cond (.t 14) .skip
  (.exit 0))) (.seq (.block 1 (.seq (.reg [(.op (some 17) none (.mv (.t 8))), (.op (some 9) none (.mv (.t 17)))]) (.block 2 (.loop (.seq (.seq (.reg [(.op (some 18) none (.mv
  (.t 9))), (.op (some 19) none (.mv (.t 1))), (.op (some 20) none (.bin .gtr (.t 18) (.t 19))), (.op (some 21) none (.mv (.t 20))), (.op (some 22) (some (21, true)) (.mv
  (.t 3))), (.op (some 23) (some (21, true)) (.mv (.t 0))), (.op (some 24) (some (21, true)) (.mv (.t 9))), (.op (some 25) (some (21, true)) (.iad 1 (.t 23) (.t 24))),
  (.op (some 26) (some (21, true)) (.ld (.t 25))), (.op (some 27) (some (21, true)) (.mv (.t 0))), (.op (some 28) (some (21, true)) (.mv (.t 9))), (.op (some 29) (some (21, true))
  (.bin .sub (.t 28) (.c (.int .i64 1)))), (.op (some 30) (some (21, true)) (.iad 1 (.t 27) (.t 29))), (.op (some 31) (some (21, true)) (.ld (.t 30))), (.op (some 32) (some (21,
  true)) (.callv (.t 22) [(.t 26), (.t 31)])), (.op (some 33) (some (21, true)) (.bin .lss (.t 32) (.c (.int .i64 0)))), (.op (some 34) none (.pick (.t 21) (.t 33) (.c
  (.bool false))))]) (.cond (.t 34) .skip (.exit 2))) (.seq (.block 3 (.reg [(.op (some 37) none (.mv (.t 0))), (.op (some 38) none (.mv (.t 9))), (.op (some 39) none (.mv
  (.t 0))), (.op (some 40) none (.mv (.t 9))), (.op (some 41) none (.bin .sub (.t 40) (.c (.int .i64 1)))), (.op (some 42) none (.mv (.t 0))), (.op (some 43) none (.mv (.t 9))),
  (.op (some 44) none (.bin .sub (.t 43) (.c (.int .i64 1)))), (.op (some 45) none (.iad 1 (.t 42) (.t 44))), (.op (some 46) none (.ld (.t 45))), (.op (some 47) none (.mv
  (.t 0))), (.op (some 48) none (.mv (.t 9))), (.op (some 49) none (.iad 1 (.t 47) (.t 48))), (.op (some 50) none (.ld (.t 49))), (.op (some 51) none (.iad 1 (.t 37) (.t 38))),
  (.op none none (.st (.t 51) (.t 46))), (.op (some 52) none (.iad 1 (.t 39) (.t 41))), (.op none none (.st (.t 52) (.t 50)))])) (.reg [(.op (some 35) none (.mv (.t 9))),
  (.op (some 36) none (.bin .sub (.t 35) (.c (.int .i64 1)))), (.op (some 9) none (.mv (.t 36)))]))))))) (.reg [(.op (some 15) none (.mv (.t 8))), (.op (some 16) none (.bin .add
  (.t 15) (.c (.int .i64 1)))), (.op (some 8) none (.mv (.t 16)))])))))), []⟩
def k6 : KFunc := ⟨141, (.seq (.reg [(.op (some 6) none (.mv (.c (.bool false))))]) (.seq (.seq (.reg [(.op (some 17) none (.call 24 [])), (.op (some 18) none (.un .not
  (.t 17)))]) (.cond (.t 18) (.seq (.reg [(.op (some 6) none (.mv (.c (.bool false))))]) .ret) .skip)) (.seq (.seq (.reg [(.op (some 19) none (.mv (.t 1))), (.op (some 20) none
  (.lenL (.t 19))), (.op (some 21) none (.bin .gtr (.t 20) (.c (.int .i64 60))))]) (.cond (.t 21) (.seq (.reg [(.op (some 6) none (.mv (.c (.bool true))))]) .ret) .skip)) (.seq
  (.reg [(.op (some 22) none (.mv (.t 0))), (.op (some 23) none (.call 25 [(.t 22)])), (.op (some 7) none (.mv (.t 23)))]) (.seq (.reg [(.op (some 24) none (.mv (.t 0))),
  (.op (some 25) none (.mx (.t 24) [(.c (.int .i64 1))])), (.op (some 26) none (.mn (.t 25) [(.c (.int .i64 16))])), (.op (some 27) none (.mks 3 [(.int .i64 0)] 8 (.t 26)
  (.t 26))), (.op (some 8) none (.mv (.t 27)))]) (.seq (.seq (.reg [(.op (some 28) none (.mv (.t 1))), (.op (some 29) none (.lenL (.t 28))), (.op (some 30) none (.mv (.c
  (.int .i64 0))))]) (.block 0 (.loop (.seq (.reg [(.op (some 31) none (.bin .lss (.t 30) (.t 29)))]) (.seq (.cond (.t 31) .skip (.exit 0)) (.seq (.block 1 (.seq
  (.reg [(.op (some 32) none (.iad 2 (.t 28) (.t 30))), (.op (some 33) none (.ldn 2 (.t 32))), (.op (some 10) none (.alloc 51 [(.int .i64 0), (.int .i64 0)])), (.op none none
  (.stn 2 (.t 10) (.t 33)))]) (.seq (.reg [(.op (some 34) none (.iada 2 1 (.t 10) (.c (.int .i64 0)))), (.op (some 35) none (.ld (.t 34))), (.op (some 36) none (.bin .geq (.t 35)
  (.c (.int .i64 1)))), (.op (some 37) none (.mv (.t 36))), (.op (some 38) (some (37, true)) (.iada 2 1 (.t 10) (.c (.int .i64 0)))), (.op (some 39) (some (37, true)) (.ld
  (.t 38))), (.op (some 40) (some (37, true)) (.mv (.t 8))), (.op (some 41) (some (37, true)) (.lenL (.t 40))), (.op (some 42) (some (37, true)) (.bin .leq (.t 39) (.t 41))),
  (.op (some 43) none (.pick (.t 37) (.t 42) (.c (.bool false)))), (.op (some 44) none (.mv (.t 43))), (.op (some 45) (some (44, true)) (.iada 2 1 (.t 10) (.c (.int .i64 1)))),
  (.op (some 46) (some (44, true)) (.ld (.t 45))), (.op (some 47) (some (44, true)) (.bin .geq (.t 46) (.c (.int .i64 0)))), (.op (some 48) none (.pick (.t 44) (.t 47) (.c
  (.bool false)))), (.op (some 49) none (.mv (.t 48))), (.op (some 50) (some (49, true)) (.iada 2 1 (.t 10) (.c (.int .i64 1)))), (.op (some 51) (some (49, true)) (.ld (.t 50))),
  (.op (some 52) (some (49, true)) (.bin .leq (.t 51) (.c (.int .i64 400)))), (.op (some 53) none (.pick (.t 49) (.t 52) (.c (.bool false)))), (.op (some 11) none (.mv (.t 53)))])
  (.seq (.seq (.reg [(.op (some 54) none (.mv (.t 7))), (.op (some 55) none (.iada 2 1 (.t 10) (.c (.int .i64 0)))), (.op (some 56) none (.ld (.t 55))), (.op (some 57) none
  (.iada 2 1 (.t 10) (.c (.int .i64 1)))), (.op (some 58) none (.ld (.t 57))), (.op (some 59) none (.call 26 [(.t 54), (.t 56), (.t 58)])), (.op (some 60) none (.mv (.t 11))),
  (.op (some 61) none (.eqv (.s .bool) true (.t 59) (.t 60)))]) (.cond (.t 61) (.seq (.reg [(.op (some 6) none (.mv (.c (.bool false))))]) .ret) .skip)) (.seq (.seq
  (.reg [(.op (some 62) none (.mv (.t 11)))]) (.cond (.t 62) (.reg [(.op (some 63) none (.mv (.t 8))), (.op (some 64) none (.iada 2 1 (.t 10) (.c (.int .i64 0)))),
  (.op (some 65) none (.ld (.t 64))), (.op (some 66) none (.bin .sub (.t 65) (.c (.int .i64 1)))), (.op (some 67) none (.iada 2 1 (.t 10) (.c (.int .i64 1)))), (.op (some 68) none
  (.ld (.t 67))), (.op (some 69) none (.iad 1 (.t 63) (.t 66))), (.op none none (.st (.t 69) (.t 68)))]) .skip)) (.seq (.reg [(.op (some 70) none (.mv (.t 7))),
  (.op (some 71) none (.iada 2 1 (.t 10) (.c (.int .i64 0)))), (.op (some 72) none (.ld (.t 71))), (.op (some 73) none (.mv (.t 2))), (.op (some 75) none (.mv (.t 8))),
  (.op (some 76) none (.iada 2 1 (.t 10) (.c (.int .i64 0)))), (.op (some 77) none (.ld (.t 76))), (.op (some 78) none (.mv (.t 2))), (.op (some 74) none (.call 27 [(.t 70),
  (.t 72), (.t 73)])), (.chk 77 none (.ld (.t 76))), (.op (some 79) none (.call 28 [(.t 75), (.t 77), (.t 78)])), (.op (some 80) none (.bin .neq (.t 74) (.t 79)))]) (.cond (.t 80)
  (.seq (.reg [(.op (some 6) none (.mv (.c (.bool false))))]) .ret) .skip))))))) (.reg [(.op (some 81) none (.bin .add (.t 30) (.c (.int .i64 1)))), (.op (some 30) none (.mv
  (.t 81)))]))))))) (.seq (.reg [(.op (some 82) none (.mv (.t 8))), (.op (some 83) none (.iad 1 (.t 82) (.c (.int .i64 0)))), (.op (some 84) none (.ld (.t 83))),
  (.op (some 85) none (.mv (.t 8))), (.op (some 86) none (.iad 1 (.t 85) (.c (.int .i64 0)))), (.op (some 87) none (.ld (.t 86))), (.op (some 12) none (.mv (.t 84))),
  (.op (some 13) none (.mv (.t 87)))]) (.seq (.seq (.reg [(.op (some 88) none (.mv (.t 8))), (.op (some 89) none (.lenL (.t 88))), (.op (some 90) none (.mv (.c (.int .i64 0))))])
  (.block 2 (.loop (.seq (.reg [(.op (some 91) none (.bin .lss (.t 90) (.t 89)))]) (.seq (.cond (.t 91) .skip (.exit 2)) (.seq (.block 3 (.seq (.reg [(.op (some 92) none (.mv
  (.t 90))), (.op (some 93) none (.iad 1 (.t 88) (.t 90))), (.op (some 94) none (.ld (.t 93))), (.op (some 14) none (.mv (.t 92))), (.op (some 15) none (.mv (.t 94)))]) (.seq
  (.reg [(.op (some 95) none (.mv (.t 12))), (.op (some 96) none (.mv (.t 15))), (.op (some 97) none (.mn (.t 95) [(.t 96)])), (.op (some 98) none (.mv (.t 13))),
  (.op (some 99) none (.mv (.t 15))), (.op (some 100) none (.mx (.t 98) [(.t 99)])), (.op (some 12) none (.mv (.t 97))), (.op (some 13) none (.mv (.t 100)))]) (.seq
  (.reg [(.op (some 101) none (.mv (.t 7))), (.op (some 102) none (.mv (.t 14))), (.op (some 103) none (.bin .add (.t 102) (.c (.int .i64 1)))), (.op (some 104) none
  (.call 29 [(.t 101), (.t 103)])), (.op (some 105) none (.mv (.t 15))), (.op (some 106) none (.bin .neq (.t 104) (.t 105)))]) (.cond (.t 106) (.seq (.reg [(.op (some 6) none (.mv
  (.c (.bool false))))]) .ret) .skip))))) (.reg [(.op (some 107) none (.bin .add (.t 90) (.c (.int .i64 1)))), (.op (some 90) none (.mv (.t 107)))]))))))) (.seq
  (.reg [(.op (some 108) none (.mv (.t 2))), (.op (some 109) none (.mn (.t 108) [(.c (.int .i64 400))])), (.op (some 16) none (.mv (.t 109)))]) (.seq (.reg [(.op (some 110) none
  (.mv (.t 7))), (.op (some 111) none (.call 30 [(.t 110)])), (.op (some 112) none (.mv (.t 8))), (.op (some 113) none (.lenL (.t 112))), (.op (some 114) none (.bin .eql (.t 111)
  (.t 113))), (.op (some 115) none (.mv (.t 114))), (.op (some 116) (some (115, true)) (.mv (.t 7))), (.op (some 117) (some (115, true)) (.call 31 [(.t 116)])),
  (.op (some 118) (some (115, true)) (.mv (.t 12))), (.op (some 119) (some (115, true)) (.bin .eql (.t 117) (.t 118))), (.op (some 120) none (.pick (.t 115) (.t 119) (.c
  (.bool false)))), (.op (some 121) none (.mv (.t 120))), (.op (some 122) (some (121, true)) (.mv (.t 7))), (.op (some 123) (some (121, true)) (.call 32 [(.t 122)])),
  (.op (some 124) (some (121, true)) (.mv (.t 13))), (.op (some 125) (some (121, true)) (.bin .eql (.t 123) (.t 124))), (.op (some 126) none (.pick (.t 121) (.t 125) (.c
  (.bool false)))), (.op (some 127) none (.mv (.t 126))), (.op (some 128) (some (127, true)) (.mv (.t 7))), (.op (some 129) (some (127, true)) (.mv (.t 16))),
  (.op (some 130) (some (127, true)) (.call 34 [(.t 128), (.t 129)])), (.op (some 131) (some (127, true)) (.mv (.t 8))), (.op (some 132) (some (127, true)) (.mv (.t 16))),
  (.op (some 133) (some (127, true)) (.call 35 [(.t 131), (.t 132)])), (.op (some 134) (some (127, true)) (.call 33 [(.t 130), (.t 133)])), (.op (some 135) none (.pick (.t 127)
  (.t 134) (.c (.bool false)))), (.op (some 136) none (.mv (.t 135))), (.op (some 137) (some (136, true)) (.mv (.t 7))), (.op (some 138) (some (136, true)) (.call 29 [(.t 137),
  (.c (.int .i64 0))])), (.op (some 139) (some (136, true)) (.bin .eql (.t 138) (.c (.int .i64 0)))), (.op (some 140) none (.pick (.t 136) (.t 139) (.c (.bool false)))),
  (.op (some 6) none (.mv (.t 140)))]) .ret)))))))))), [(.t 6)]⟩
def k7 : KFunc := ⟨47, (.seq (.reg [(.op (some 6) none (.mv (.c (.bool false))))]) (.seq (.seq (.reg [(.op (some 8) none (.call 24 [])), (.op (some 9) none (.un .not (.t 8)))])
  (.cond (.t 9) (.seq (.reg [(.op (some 6) none (.mv (.c (.bool false))))]) .ret) .skip)) (.seq (.reg [(.op (some 10) none (.mv (.t 0))), (.op (some 11) none (.mv (.t 1))),
  (.op (some 12) none (.mv (.t 2))), (.op (some 13) none (.call 36 [(.t 10), (.t 11), (.t 12)])), (.op (some 7) none (.mv (.t 13)))]) (.seq (.reg [(.op (some 14) none (.mv
  (.t 7))), (.op (some 15) none (.mv (.t 0))), (.op (some 16) none (.mv (.t 1))), (.op (some 17) none (.mv (.t 2))), (.op (some 18) none (.call 37 [(.t 15), (.t 16), (.t 17)])),
  (.op (some 19) none (.bin .eql (.t 14) (.t 18))), (.op (some 20) none (.mv (.t 19))), (.op (some 21) (some (20, true)) (.mv (.t 7))), (.op (some 22) (some (20, true)) (.bin .geq
  (.t 21) (.c (.int .i64 0)))), (.op (some 23) none (.pick (.t 20) (.t 22) (.c (.bool false)))), (.op (some 24) none (.mv (.t 23))), (.op (some 25) (some (24, true)) (.mv
  (.t 7))), (.op (some 26) (some (24, true)) (.mv (.t 0))), (.op (some 27) (some (24, true)) (.mx (.t 26) [(.c (.int .i64 0))])), (.op (some 28) (some (24, true)) (.bin .leq
  (.t 25) (.t 27))), (.op (some 29) none (.pick (.t 24) (.t 28) (.c (.bool false)))), (.op (some 30) none (.mv (.t 29))), (.op (some 31) (some (30, true)) (.mv (.t 7))),
  (.op (some 32) (some (30, true)) (.bin .eql (.t 31) (.c (.int .i64 0)))), (.op (some 33) (some (30, true)) (.mv (.t 32))), (.op (some 34) (some (33, false)) (.mv (.t 7))),
  (.op (some 35) (some (33, false)) (.mv (.t 1))), (.op (some 36) (some (33, false)) (.bin .leq (.t 34) (.t 35))), (.op (some 37) (some (33, false)) (.mv (.t 36))),
  (.op (some 38) (some (37, true)) (.mv (.t 1))), (.op (some 39) (some (37, true)) (.mv (.t 7))), (.op (some 40) (some (37, true)) (.bin .sub (.t 38) (.t 39))),
  (.op (some 41) (some (37, true)) (.mv (.t 2))), (.op (some 42) (some (37, true)) (.mx (.t 41) [(.c (.int .i64 0))])), (.op (some 43) (some (37, true)) (.bin .geq (.t 40)
  (.t 42))), (.op (some 44) (some (33, false)) (.pick (.t 37) (.t 43) (.c (.bool false)))), (.op (some 45) (some (30, true)) (.pick (.t 33) (.c (.bool true)) (.t 44))),
  (.op (some 46) none (.pick (.t 30) (.t 45) (.c (.bool false)))), (.op (some 6) none (.mv (.t 46)))]) .ret)))), [(.t 6)]⟩
def k8 : KFunc := ⟨70, (.seq (.reg [(.op (some 6) none (.mv (.c (.bool false))))]) (.seq (.seq (.reg [(.op (some 11) none (.call 24 [])), (.op (some 12) none (.un .not (.t 11)))])
  (.cond (.t 12) (.seq (.reg [(.op (some 6) none (.mv (.c (.bool false))))]) .ret) .skip)) (.seq (.reg [(.op (some 7) none (.mv (.c (.pointer none))))]) (.seq
  (.reg [(.op (some 13) none (.mv (.t 0))), (.op (some 14) none (.mx (.t 13) [(.c (.int .i64 0))])), (.op (some 15) none (.mn (.t 14) [(.c (.int .i64 1099511627776))])),
  (.op (some 16) none (.mv (.t 1))), (.op (some 17) none (.mx (.t 16) [(.c (.int .i64 0))])), (.op (some 18) none (.mn (.t 17) [(.c (.int .i64 1099511627776))])),
  (.op (some 19) none (.mv (.t 2))), (.op (some 20) none (.mx (.t 19) [(.c (.int .i64 0))])), (.op (some 21) none (.mn (.t 20) [(.c (.int .i64 1099511627776))])),
  (.op (some 8) none (.mv (.t 15))), (.op (some 9) none (.mv (.t 18))), (.op (some 10) none (.mv (.t 21)))]) (.seq (.reg [(.op (some 22) none (.mv (.t 0))), (.op (some 23) none
  (.mv (.t 1))), (.op (some 24) none (.mv (.t 2))), (.op (some 25) none (.call 38 [(.t 22), (.t 23), (.t 24)])), (.op (some 26) none (.mv (.t 10))), (.op (some 27) none (.bin .gtr
  (.t 26) (.c (.int .i64 0)))), (.op (some 28) none (.mv (.t 27))), (.op (some 29) (some (28, true)) (.mv (.t 8))), (.op (some 30) (some (28, true)) (.mv (.t 9))),
  (.op (some 31) (some (28, true)) (.bin .sub (.t 29) (.t 30))), (.op (some 32) (some (28, true)) (.mv (.t 10))), (.op (some 33) (some (28, true)) (.bin .geq (.t 31) (.t 32))),
  (.op (some 34) none (.pick (.t 28) (.t 33) (.c (.bool false)))), (.op (some 35) none (.eqv (.s .bool) false (.t 25) (.t 34))), (.op (some 36) none (.mv (.t 35))),
  (.op (some 37) (some (36, true)) (.mv (.t 7))), (.op (some 38) (some (36, true)) (.call 30 [(.t 37)])), (.op (some 39) (some (36, true)) (.bin .eql (.t 38) (.c (.int .i64 0)))),
  (.op (some 40) none (.pick (.t 36) (.t 39) (.c (.bool false)))), (.op (some 41) none (.mv (.t 40))), (.op (some 42) (some (41, true)) (.mv (.t 7))), (.op (some 43) (some (41,
  true)) (.mv (.t 0))), (.op (some 44) (some (41, true)) (.call 26 [(.t 42), (.c (.int .i64 1)), (.t 43)])), (.op (some 45) (some (41, true)) (.un .not (.t 44))),
  (.op (some 46) none (.pick (.t 41) (.t 45) (.c (.bool false)))), (.op (some 47) none (.mv (.t 46))), (.op (some 48) (some (47, true)) (.mv (.t 7))), (.op (some 49) (some (47,
  true)) (.mv (.t 1))), (.op (some 50) (some (47, true)) (.call 27 [(.t 48), (.c (.int .i64 1)), (.t 49)])), (.op (some 51) (some (47, true)) (.bin .eql (.t 50) (.c
  (.int .i64 0)))), (.op (some 52) none (.pick (.t 47) (.t 51) (.c (.bool false)))), (.op (some 53) none (.mv (.t 52))), (.op (some 54) (some (53, true)) (.mv (.t 7))),
  (.op (some 55) (some (53, true)) (.call 31 [(.t 54)])), (.op (some 56) (some (53, true)) (.bin .eql (.t 55) (.c (.int .i64 0)))), (.op (some 57) none (.pick (.t 53) (.t 56) (.c
  (.bool false)))), (.op (some 58) none (.mv (.t 57))), (.op (some 59) (some (58, true)) (.mv (.t 7))), (.op (some 60) (some (58, true)) (.call 32 [(.t 59)])),
  (.op (some 61) (some (58, true)) (.bin .eql (.t 60) (.c (.int .i64 0)))), (.op (some 62) none (.pick (.t 58) (.t 61) (.c (.bool false)))), (.op (some 63) none (.mv (.t 62))),
  (.op (some 64) (some (63, true)) (.mv (.t 7))), (.op (some 65) (some (63, true)) (.mv (.t 2))), (.op (some 66) (some (63, true)) (.call 34 [(.t 64), (.t 65)])),
  (.op (some 67) (some (63, true)) (.lenL (.t 66))), (.op (some 68) (some (63, true)) (.bin .eql (.t 67) (.c (.int .i64 0)))), (.op (some 69) none (.pick (.t 63) (.t 68) (.c
  (.bool false)))), (.op (some 6) none (.mv (.t 69)))]) .ret))))), [(.t 6)]⟩
theorem c24 : okFunc Go.Proofs.Try.prog 24 = true ∧ ∃ fn, Go.Proofs.Try.prog.funcs[24]? = some fn ∧ cFunc Go.Proofs.Try.prog fn = some k24 := ⟨by kernel_rfl, Go.Proofs.Try.f24, Go.Proofs.Try.func24, by kernel_rfl⟩
theorem c25 : okFunc Go.Proofs.Try.prog 25 = true ∧ ∃ fn, Go.Proofs.Try.prog.funcs[25]? = some fn ∧ cFunc Go.Proofs.Try.prog fn = some k25 := ⟨by kernel_rfl, Go.Proofs.Try.f25, Go.Proofs.Try.func25, by kernel_rfl⟩
theorem c26 : okFunc Go.Proofs.Try.prog 26 = true ∧ ∃ fn, Go.Proofs.Try.prog.funcs[26]? = some fn ∧ cFunc Go.Proofs.Try.prog fn = some k26 := ⟨by kernel_rfl, Go.Proofs.Try.f26, Go.Proofs.Try.func26, by kernel_rfl⟩
theorem c27 : okFunc Go.Proofs.Try.prog 27 = true ∧ ∃ fn, Go.Proofs.Try.prog.funcs[27]? = some fn ∧ cFunc Go.Proofs.Try.prog fn = some k27 := ⟨by kernel_rfl, Go.Proofs.Try.f27, Go.Proofs.Try.func27, by kernel_rfl⟩
theorem c28 : okFunc Go.Proofs.Try.prog 28 = true ∧ ∃ fn, Go.Proofs.Try.prog.funcs[28]? = some fn ∧ cFunc Go.Proofs.Try.prog fn = some k28 := ⟨by kernel_rfl, Go.Proofs.Try.f28, Go.Proofs.Try.func28, by kernel_rfl⟩
theorem c29 : okFunc Go.Proofs.Try.prog 29 = true ∧ ∃ fn, Go.Proofs.Try.prog.funcs[29]? = some fn ∧ cFunc Go.Proofs.Try.prog fn = some k29 := ⟨by kernel_rfl, Go.Proofs.Try.f29, Go.Proofs.Try.func29, by kernel_rfl⟩
theorem c30 : okFunc Go.Proofs.Try.prog 30 = true ∧ ∃ fn, Go.Proofs.Try.prog.funcs[30]? = some fn ∧ cFunc Go.Proofs.Try.prog fn = some k30 := ⟨by kernel_rfl, Go.Proofs.Try.f30, Go.Proofs.Try.func30, by kernel_rfl⟩
theorem c31 : okFunc Go.Proofs.Try.prog 31 = true ∧ ∃ fn, Go.Proofs.Try.prog.funcs[31]? = some fn ∧ cFunc Go.Proofs.Try.prog fn = some k31 := ⟨by kernel_rfl, Go.Proofs.Try.f31, Go.Proofs.Try.func31, by kernel_rfl⟩
theorem c32 : okFunc Go.Proofs.Try.prog 32 = true ∧ ∃ fn, Go.Proofs.Try.prog.funcs[32]? = some fn ∧ cFunc Go.Proofs.Try.prog fn = some k32 := ⟨by kernel_rfl, Go.Proofs.Try.f32, Go.Proofs.Try.func32, by kernel_rfl⟩
theorem c33 : okFunc Go.Proofs.Try.prog 33 = true ∧ ∃ fn, Go.Proofs.Try.prog.funcs[33]? = some fn ∧ cFunc Go.Proofs.Try.prog fn = some k33 := ⟨by kernel_rfl, Go.Proofs.Try.f33, Go.Proofs.Try.func33, by kernel_rfl⟩
theorem c34 : okFunc Go.Proofs.Try.prog 34 = true ∧ ∃ fn, Go.Proofs.Try.prog.funcs[34]? = some fn ∧ cFunc Go.Proofs.Try.prog fn = some k34 := ⟨by kernel_rfl, Go.Proofs.Try.f34, Go.Proofs.Try.func34, by kernel_rfl⟩
theorem c35 : okFunc Go.Proofs.Try.prog 35 = true ∧ ∃ fn, Go.Proofs.Try.prog.funcs[35]? = some fn ∧ cFunc Go.Proofs.Try.prog fn = some k35 := ⟨by kernel_rfl, Go.Proofs.Try.f35, Go.Proofs.Try.func35, by kernel_rfl⟩
theorem c36 : okFunc Go.Proofs.Try.prog 36 = true ∧ ∃ fn, Go.Proofs.Try.prog.funcs[36]? = some fn ∧ cFunc Go.Proofs.Try.prog fn = some k36 := ⟨by kernel_rfl, Go.Proofs.Try.f36, Go.Proofs.Try.func36, by kernel_rfl⟩
theorem c37 : okFunc Go.Proofs.Try.prog 37 = true ∧ ∃ fn, Go.Proofs.Try.prog.funcs[37]? = some fn ∧ cFunc Go.Proofs.Try.prog fn = some k37 := ⟨by kernel_rfl, Go.Proofs.Try.f37, Go.Proofs.Try.func37, by kernel_rfl⟩
theorem c38 : okFunc Go.Proofs.Try.prog 38 = true ∧ ∃ fn, Go.Proofs.Try.prog.funcs[38]? = some fn ∧ cFunc Go.Proofs.Try.prog fn = some k38 := ⟨by kernel_rfl, Go.Proofs.Try.f38, Go.Proofs.Try.func38, by kernel_rfl⟩
theorem c62 : okFunc Go.Proofs.Try.prog 62 = true ∧ ∃ fn, Go.Proofs.Try.prog.funcs[62]? = some fn ∧ cFunc Go.Proofs.Try.prog fn = some k62 := ⟨by kernel_rfl, Go.Proofs.Try.f62, Go.Proofs.Try.func62, by kernel_rfl⟩
theorem c63 : okFunc Go.Proofs.Try.prog 63 = true ∧ ∃ fn, Go.Proofs.Try.prog.funcs[63]? = some fn ∧ cFunc Go.Proofs.Try.prog fn = some k63 := ⟨by kernel_rfl, Go.Proofs.Try.f63, Go.Proofs.Try.func63, by kernel_rfl⟩
theorem c64 : okFunc Go.Proofs.Try.prog 64 = true ∧ ∃ fn, Go.Proofs.Try.prog.funcs[64]? = some fn ∧ cFunc Go.Proofs.Try.prog fn = some k64 := ⟨by kernel_rfl, Go.Proofs.Try.f64, Go.Proofs.Try.func64, by kernel_rfl⟩
theorem c65 : okFunc Go.Proofs.Try.prog 65 = true ∧ ∃ fn, Go.Proofs.Try.prog.funcs[65]? = some fn ∧ cFunc Go.Proofs.Try.prog fn = some k65 := ⟨by kernel_rfl, Go.Proofs.Try.f65, Go.Proofs.Try.func65, by kernel_rfl⟩
theorem c66 : okFunc Go.Proofs.Try.prog 66 = true ∧ ∃ fn, Go.Proofs.Try.prog.funcs[66]? = some fn ∧ cFunc Go.Proofs.Try.prog fn = some k66 := ⟨by kernel_rfl, Go.Proofs.Try.f66, Go.Proofs.Try.func66, by kernel_rfl⟩
theorem c67 : okFunc Go.Proofs.Try.prog 67 = true ∧ ∃ fn, Go.Proofs.Try.prog.funcs[67]? = some fn ∧ cFunc Go.Proofs.Try.prog fn = some k67 := ⟨by kernel_rfl, Go.Proofs.Try.f67, Go.Proofs.Try.func67, by kernel_rfl⟩
theorem c68 : okFunc Go.Proofs.Try.prog 68 = true ∧ ∃ fn, Go.Proofs.Try.prog.funcs[68]? = some fn ∧ cFunc Go.Proofs.Try.prog fn = some k68 := ⟨by kernel_rfl, Go.Proofs.Try.f68, Go.Proofs.Try.func68, by kernel_rfl⟩
theorem c89 : okFunc Go.Proofs.Try.prog 89 = true ∧ ∃ fn, Go.Proofs.Try.prog.funcs[89]? = some fn ∧ cFunc Go.Proofs.Try.prog fn = some k89 := ⟨by kernel_rfl, Go.Proofs.Try.f89, Go.Proofs.Try.func89, by kernel_rfl⟩
theorem c90 : okFunc Go.Proofs.Try.prog 90 = true ∧ ∃ fn, Go.Proofs.Try.prog.funcs[90]? = some fn ∧ cFunc Go.Proofs.Try.prog fn = some k90 := ⟨by kernel_rfl, Go.Proofs.Try.f90, Go.Proofs.Try.func90, by kernel_rfl⟩
theorem c101 : okFunc Go.Proofs.Try.prog 101 = true ∧ ∃ fn, Go.Proofs.Try.prog.funcs[101]? = some fn ∧ cFunc Go.Proofs.Try.prog fn = some k101 := ⟨by kernel_rfl, Go.Proofs.Try.f101, Go.Proofs.Try.func101, by kernel_rfl⟩
theorem c6 : okFunc Go.Proofs.Try.prog 6 = true ∧ ∃ fn, Go.Proofs.Try.prog.funcs[6]? = some fn ∧ cFunc Go.Proofs.Try.prog fn = some k6 := ⟨by kernel_rfl, Go.Proofs.Try.f6, Go.Proofs.Try.func6, by kernel_rfl⟩
theorem c7 : okFunc Go.Proofs.Try.prog 7 = true ∧ ∃ fn, Go.Proofs.Try.prog.funcs[7]? = some fn ∧ cFunc Go.Proofs.Try.prog fn = some k7 := ⟨by kernel_rfl, Go.Proofs.Try.f7, Go.Proofs.Try.func7, by kernel_rfl⟩
theorem c8 : okFunc Go.Proofs.Try.prog 8 = true ∧ ∃ fn, Go.Proofs.Try.prog.funcs[8]? = some fn ∧ cFunc Go.Proofs.Try.prog fn = some k8 := ⟨by kernel_rfl, Go.Proofs.Try.f8, Go.Proofs.Try.func8, by kernel_rfl⟩
def F : FuncId → Option KFunc
  | 24 => some k24
  | 25 => some k25
  | 26 => some k26
  | 27 => some k27
  | 28 => some k28
  | 29 => some k29
  | 30 => some k30
  | 31 => some k31
  | 32 => some k32
  | 33 => some k33
  | 34 => some k34
  | 35 => some k35
  | 36 => some k36
  | 37 => some k37
  | 38 => some k38
  | 62 => some k62
  | 63 => some k63
  | 64 => some k64
  | 65 => some k65
  | 66 => some k66
  | 67 => some k67
  | 68 => some k68
  | 89 => some k89
  | 90 => some k90
  | 101 => some k101
  | 6 => some k6
  | 7 => some k7
  | 8 => some k8
  | _ => none
def M : TypeId → String → Option (FuncId × Recv)
  | _, _ => none
theorem F_ok : ∀ f k, F f = some k → okFunc Go.Proofs.Try.prog f = true ∧ ∃ fn, Go.Proofs.Try.prog.funcs[f]? = some fn ∧ cFunc Go.Proofs.Try.prog fn = some k := by
  intro f k h
  unfold F at h
  split at h
  · cases h; exact c24
  · cases h; exact c25
  · cases h; exact c26
  · cases h; exact c27
  · cases h; exact c28
  · cases h; exact c29
  · cases h; exact c30
  · cases h; exact c31
  · cases h; exact c32
  · cases h; exact c33
  · cases h; exact c34
  · cases h; exact c35
  · cases h; exact c36
  · cases h; exact c37
  · cases h; exact c38
  · cases h; exact c62
  · cases h; exact c63
  · cases h; exact c64
  · cases h; exact c65
  · cases h; exact c66
  · cases h; exact c67
  · cases h; exact c68
  · cases h; exact c89
  · cases h; exact c90
  · cases h; exact c101
  · cases h; exact c6
  · cases h; exact c7
  · cases h; exact c8
  · cases h
theorem M_ok : ∀ t n f r, M t n = some (f, r) → methOk Go.Proofs.Try.prog t n f r = true := by
  intro t n f r h
  unfold M at h
  split at h
  · cases h
end Go.Proofs.Ytccjanieihlpcaa.K
