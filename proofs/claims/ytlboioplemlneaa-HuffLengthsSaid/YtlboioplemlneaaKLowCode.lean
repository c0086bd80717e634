/- The functions in K's language, each held against the given translation by the kernel. Printed by a program of this work (seat.py). -/
import Derived.Test.YtlboioplemlneaaKF3
import Derived.Test.YtlboioplemlneaaProg
set_option maxRecDepth 100000
set_option linter.unusedVariables false
namespace Go.Proofs.Ytlboioplemlneaa.K
open Go Go.Proofs
def k10 : KFunc := ⟨108, (.seq (.reg [(.op (some 2) none (.mv (.c (.bool false))))]) (.seq (.seq (.reg [(.op (some 13) none (.call 37 [])), (.op (some 14) none (.un .not
  (.t 13)))]) (.cond (.t 14) (.seq (.reg [(.op (some 2) none (.mv (.c (.bool false))))]) .ret) .skip)) (.seq (.seq (.reg [(.op (some 15) none (.mv (.t 0))), (.op (some 16) none
  (.lenL (.t 15))), (.op (some 17) none (.bin .gtr (.t 16) (.c (.int .i64 256))))]) (.cond (.t 17) (.seq (.reg [(.op (some 2) none (.mv (.c (.bool true))))]) .ret) .skip)) (.seq
  (.reg [(.op (some 19) none (.mv (.t 0))), (.op (some 20) none (.call 38 [(.t 19)])), (.op (some 18) none (.mv (.t 20))), (.op (some 21) none (.xt (.t 18) 0)),
  (.op (some 22) none (.xt (.t 18) 1)), (.op (some 3) none (.mv (.t 21))), (.op (some 4) none (.mv (.t 22)))]) (.seq (.seq (.reg [(.op (some 23) none (.mv (.t 4))),
  (.op (some 24) none (.mv (.t 0))), (.op (some 25) none (.call 39 [(.t 24)])), (.op (some 26) none (.eqv (.s .bool) true (.t 23) (.t 25)))]) (.cond (.t 26) (.seq
  (.reg [(.op (some 2) none (.mv (.c (.bool false))))]) .ret) .skip)) (.seq (.seq (.reg [(.op (some 27) none (.mv (.t 4))), (.op (some 28) none (.un .not (.t 27)))]) (.cond
  (.t 28) (.seq (.reg [(.op (some 29) none (.mv (.t 3))), (.op (some 30) none (.lenL (.t 29))), (.op (some 31) none (.bin .eql (.t 30) (.c (.int .i64 0)))), (.op (some 32) none
  (.mv (.t 31))), (.op (some 33) (some (32, true)) (.mv (.t 0))), (.op (some 34) (some (32, true)) (.call 40 [(.t 33)])), (.op (some 35) (some (32, true)) (.bin .eql (.t 34) (.c
  (.int .i64 0)))), (.op (some 36) none (.pick (.t 32) (.t 35) (.c (.bool false)))), (.op (some 2) none (.mv (.t 36)))]) .ret) .skip)) (.seq (.seq (.reg [(.op (some 37) none (.mv
  (.t 3))), (.op (some 38) none (.lenL (.t 37))), (.op (some 39) none (.mv (.t 0))), (.op (some 40) none (.lenL (.t 39))), (.op (some 41) none (.bin .neq (.t 38) (.t 40))),
  (.op (some 42) none (.mv (.t 41))), (.op (some 43) (some (42, false)) (.mv (.t 3))), (.op (some 44) (some (42, false)) (.call 22 [(.t 43)])), (.op (some 45) (some (42, false))
  (.un .not (.t 44))), (.op (some 46) none (.pick (.t 42) (.c (.bool true)) (.t 45)))]) (.cond (.t 46) (.seq (.reg [(.op (some 2) none (.mv (.c (.bool false))))]) .ret) .skip))
  (.seq (.reg [(.op (some 5) none (.mv (.c (.int .i64 0))))]) (.seq (.seq (.reg [(.op (some 47) none (.mv (.t 3))), (.op (some 48) none (.lenL (.t 47))), (.op (some 49) none (.mv
  (.c (.int .i64 0))))]) (.block 0 (.loop (.seq (.reg [(.op (some 50) none (.bin .lss (.t 49) (.t 48)))]) (.seq (.cond (.t 50) .skip (.exit 0)) (.seq (.block 1 (.seq
  (.reg [(.op (some 51) none (.mv (.t 49))), (.op (some 52) none (.iad 1 (.t 47) (.t 49))), (.op (some 53) none (.ld (.t 52))), (.op (some 6) none (.mv (.t 51))),
  (.op (some 7) none (.mv (.t 53)))]) (.seq (.seq (.reg [(.op (some 54) none (.mv (.t 7))), (.op (some 55) none (.bin .gtr (.t 54) (.c (.int .i64 0)))), (.op (some 56) none (.mv
  (.t 0))), (.op (some 57) none (.mv (.t 6))), (.op (some 58) none (.iad 1 (.t 56) (.t 57))), (.op (some 59) none (.ld (.t 58))), (.op (some 60) none (.bin .gtr (.t 59) (.c
  (.int .i64 0)))), (.op (some 61) none (.eqv (.s .bool) true (.t 55) (.t 60)))]) (.cond (.t 61) (.seq (.reg [(.op (some 2) none (.mv (.c (.bool false))))]) .ret) .skip))
  (.reg [(.op (some 62) none (.mv (.t 5))), (.op (some 63) none (.mv (.t 7))), (.op (some 64) none (.mx (.t 62) [(.t 63)])), (.op (some 5) none (.mv (.t 64)))]))))
  (.reg [(.op (some 65) none (.bin .add (.t 49) (.c (.int .i64 1)))), (.op (some 49) none (.mv (.t 65)))]))))))) (.seq (.reg [(.op (some 67) none (.mv (.t 0))),
  (.op (some 68) none (.mv (.t 3))), (.op (some 69) none (.call 41 [(.t 67), (.t 68)])), (.op (some 66) none (.mv (.t 69))), (.op (some 70) none (.xt (.t 66) 0)),
  (.op (some 71) none (.xt (.t 66) 1)), (.op (some 8) none (.mv (.t 70))), (.op (some 9) none (.mv (.t 71)))]) (.seq (.reg [(.op (some 72) none (.mv (.t 0))), (.op (some 73) none
  (.call 42 [(.t 72)])), (.op (some 10) none (.mv (.t 73)))]) (.seq (.reg [(.op (some 75) none (.mv (.t 0))), (.op (some 76) none (.mv (.t 3))), (.op (some 77) none
  (.call 43 [(.t 75), (.t 76)])), (.op (some 74) none (.mv (.t 77))), (.op (some 78) none (.xt (.t 74) 0)), (.op (some 79) none (.xt (.t 74) 1)), (.op (some 11) none (.mv
  (.t 78))), (.op (some 12) none (.mv (.t 79)))]) (.seq (.reg [(.op (some 80) none (.mv (.t 9))), (.op (some 81) none (.mv (.t 80))), (.op (some 82) (some (81, true)) (.mv
  (.t 12))), (.op (some 83) none (.pick (.t 81) (.t 82) (.c (.bool false)))), (.op (some 84) none (.mv (.t 83))), (.op (some 85) (some (84, true)) (.mv (.t 11))),
  (.op (some 86) (some (84, true)) (.mv (.t 8))), (.op (some 87) (some (84, true)) (.bin .eql (.t 85) (.t 86))), (.op (some 88) none (.pick (.t 84) (.t 87) (.c (.bool false)))),
  (.op (some 89) none (.mv (.t 88))), (.op (some 90) (some (89, true)) (.mv (.t 0))), (.op (some 91) (some (89, true)) (.call 40 [(.t 90)])), (.op (some 92) (some (89, true)) (.mv
  (.t 10))), (.op (some 93) (some (89, true)) (.bin .eql (.t 91) (.t 92))), (.op (some 94) none (.pick (.t 89) (.t 93) (.c (.bool false)))), (.op (some 95) none (.mv (.t 94))),
  (.op (some 96) (some (95, true)) (.mv (.t 8))), (.op (some 97) (some (95, true)) (.mv (.t 10))), (.op (some 98) (some (95, true)) (.bin .geq (.t 96) (.t 97))),
  (.op (some 99) none (.pick (.t 95) (.t 98) (.c (.bool false)))), (.op (some 100) none (.mv (.t 99))), (.op (some 101) (some (100, true)) (.mv (.t 8))),
  (.op (some 102) (some (100, true)) (.mv (.t 0))), (.op (some 103) (some (100, true)) (.call 44 [(.t 102)])), (.op (some 104) (some (100, true)) (.mv (.t 10))),
  (.op (some 105) (some (100, true)) (.mx (.t 103) [(.t 104)])), (.op (some 106) (some (100, true)) (.bin .leq (.t 101) (.t 105))), (.op (some 107) none (.pick (.t 100) (.t 106)
  (.c (.bool false)))), (.op (some 2) none (.mv (.t 107)))]) .ret))))))))))))), [(.t 2)]⟩
def k22 : KFunc := ⟨40, (.seq (.reg [(.op (some 2) none (.mv (.c (.bool false))))]) (.seq (.seq (.reg [(.op (some 6) none (.mv (.t 0))), (.op (some 7) none (.call 59 [(.t 6)])),
  (.op (some 8) none (.un .not (.t 7)))]) (.cond (.t 8) (.seq (.reg [(.op (some 2) none (.mv (.c (.bool false))))]) .ret) .skip)) (.seq (.reg [(.op (some 3) none (.mv (.c
  (.int .i64 0))))]) (.seq (.reg [(.op (some 4) none (.mv (.c (.int .i64 0))))]) (.seq (.seq (.reg [(.op (some 5) none (.mv (.c (.int .i64 0))))]) (.block 0 (.loop (.seq (.seq
  (.reg [(.op (some 9) none (.mv (.t 5))), (.op (some 10) none (.mv (.t 0))), (.op (some 11) none (.lenL (.t 10))), (.op (some 12) none (.bin .lss (.t 9) (.t 11)))]) (.cond
  (.t 12) .skip (.exit 0))) (.seq (.block 1 (.seq (.reg [(.op (some 15) none (.mv (.t 0))), (.op (some 16) none (.mv (.t 5))), (.op (some 17) none (.iad 1 (.t 15) (.t 16))),
  (.op (some 18) none (.ld (.t 17))), (.op (some 19) none (.bin .gtr (.t 18) (.c (.int .i64 0))))]) (.cond (.t 19) (.seq (.reg [(.op (some 20) none (.mv (.t 3))),
  (.op (some 21) none (.mv (.t 0))), (.op (some 22) none (.mv (.t 5))), (.op (some 23) none (.iad 1 (.t 21) (.t 22))), (.op (some 24) none (.ld (.t 23))), (.op (some 25) none
  (.bin .sub (.c (.int .i64 11)) (.t 24))), (.op (some 26) none (.call 60 [(.t 25)])), (.op (some 27) none (.bin .add (.t 20) (.t 26))), (.op (some 3) none (.mv (.t 27)))])
  (.reg [(.op (some 28) none (.mv (.t 4))), (.op (some 29) none (.bin .add (.t 28) (.c (.int .i64 1)))), (.op (some 4) none (.mv (.t 29)))])) .skip))) (.reg [(.op (some 13) none
  (.mv (.t 5))), (.op (some 14) none (.bin .add (.t 13) (.c (.int .i64 1)))), (.op (some 5) none (.mv (.t 14)))])))))) (.seq (.reg [(.op (some 30) none (.mv (.t 3))),
  (.op (some 31) none (.bin .eql (.t 30) (.c (.int .i64 2048)))), (.op (some 32) none (.mv (.t 31))), (.op (some 33) (some (32, false)) (.mv (.t 4))), (.op (some 34) (some (32,
  false)) (.bin .eql (.t 33) (.c (.int .i64 1)))), (.op (some 35) (some (32, false)) (.mv (.t 34))), (.op (some 36) (some (35, true)) (.mv (.t 3))), (.op (some 37) (some (35,
  true)) (.bin .eql (.t 36) (.c (.int .i64 1024)))), (.op (some 38) (some (32, false)) (.pick (.t 35) (.t 37) (.c (.bool false)))), (.op (some 39) none (.pick (.t 32) (.c
  (.bool true)) (.t 38))), (.op (some 2) none (.mv (.t 39)))]) .ret)))))), [(.t 2)]⟩
def k37 : KFunc := ⟨60, (.seq (.reg [(.op (some 0) none (.mv (.c (.bool false))))]) (.seq (.reg [(.op (some 6) none (.bsl 3 3 [(.int .i64 0), (.int .i64 0), (.int .i64 0)] [(0,
  (1, (.c (.int .i64 5)))), (1, (1, (.c (.int .i64 2)))), (2, (1, (.c (.int .i64 1))))])), (.op (some 7) none (.call 38 [(.t 6)])), (.op (some 5) none (.mv (.t 7))),
  (.op (some 8) none (.xt (.t 5) 0)), (.op (some 9) none (.xt (.t 5) 1)), (.op (some 1) none (.mv (.t 8))), (.op (some 2) none (.mv (.t 9)))]) (.seq (.reg [(.op (some 11) none
  (.mv (.t 1))), (.op (some 12) none (.call 70 [(.t 11)])), (.op (some 10) none (.mv (.t 12))), (.op (some 13) none (.xt (.t 10) 0)), (.op (some 14) none (.xt (.t 10) 1)),
  (.op (some 3) none (.mv (.t 13))), (.op (some 4) none (.mv (.t 14)))]) (.seq (.reg [(.op (some 15) none (.mv (.t 2))), (.op (some 16) none (.mv (.t 15))),
  (.op (some 17) (some (16, true)) (.mv (.t 4))), (.op (some 18) none (.pick (.t 16) (.t 17) (.c (.bool false)))), (.op (some 19) none (.mv (.t 18))), (.op (some 20) (some (19,
  true)) (.mv (.t 1))), (.op (some 21) (some (19, true)) (.lenL (.t 20))), (.op (some 22) (some (19, true)) (.bin .eql (.t 21) (.c (.int .i64 3)))), (.op (some 23) none (.pick
  (.t 19) (.t 22) (.c (.bool false)))), (.op (some 24) none (.mv (.t 23))), (.op (some 25) (some (24, true)) (.mv (.t 1))), (.op (some 26) (some (24, true)) (.iad 1 (.t 25) (.c
  (.int .i64 0)))), (.op (some 27) (some (24, true)) (.ld (.t 26))), (.op (some 28) (some (24, true)) (.bin .eql (.t 27) (.c (.int .i64 1)))), (.op (some 29) none (.pick (.t 24)
  (.t 28) (.c (.bool false)))), (.op (some 30) none (.mv (.t 29))), (.op (some 31) (some (30, true)) (.mv (.t 1))), (.op (some 32) (some (30, true)) (.iad 1 (.t 31) (.c
  (.int .i64 1)))), (.op (some 33) (some (30, true)) (.ld (.t 32))), (.op (some 34) (some (30, true)) (.bin .eql (.t 33) (.c (.int .i64 2)))), (.op (some 35) none (.pick (.t 30)
  (.t 34) (.c (.bool false)))), (.op (some 36) none (.mv (.t 35))), (.op (some 37) (some (36, true)) (.mv (.t 1))), (.op (some 38) (some (36, true)) (.iad 1 (.t 37) (.c
  (.int .i64 2)))), (.op (some 39) (some (36, true)) (.ld (.t 38))), (.op (some 40) (some (36, true)) (.bin .eql (.t 39) (.c (.int .i64 2)))), (.op (some 41) none (.pick (.t 36)
  (.t 40) (.c (.bool false)))), (.op (some 42) none (.mv (.t 41))), (.op (some 43) (some (42, true)) (.mv (.t 3))), (.op (some 44) (some (42, true)) (.iad 1 (.t 43) (.c
  (.int .i64 0)))), (.op (some 45) (some (42, true)) (.ld (.t 44))), (.op (some 46) (some (42, true)) (.bin .eql (.t 45) (.c (.int .i64 0)))), (.op (some 47) none (.pick (.t 42)
  (.t 46) (.c (.bool false)))), (.op (some 48) none (.mv (.t 47))), (.op (some 49) (some (48, true)) (.mv (.t 3))), (.op (some 50) (some (48, true)) (.iad 1 (.t 49) (.c
  (.int .i64 1)))), (.op (some 51) (some (48, true)) (.ld (.t 50))), (.op (some 52) (some (48, true)) (.bin .eql (.t 51) (.c (.int .i64 2)))), (.op (some 53) none (.pick (.t 48)
  (.t 52) (.c (.bool false)))), (.op (some 54) none (.mv (.t 53))), (.op (some 55) (some (54, true)) (.mv (.t 3))), (.op (some 56) (some (54, true)) (.iad 1 (.t 55) (.c
  (.int .i64 2)))), (.op (some 57) (some (54, true)) (.ld (.t 56))), (.op (some 58) (some (54, true)) (.bin .eql (.t 57) (.c (.int .i64 3)))), (.op (some 59) none (.pick (.t 54)
  (.t 58) (.c (.bool false)))), (.op (some 0) none (.mv (.t 59)))]) .ret)))), [(.t 0)]⟩
def k38 : KFunc := ⟨39, (.seq (.reg [(.op (some 2) none (.mv (.c (.slice none 0 0)))), (.op (some 3) none (.mv (.c (.bool false))))]) (.seq (.seq (.reg [(.op (some 8) none (.mv
  (.t 0))), (.op (some 9) none (.call 87 [(.t 8)])), (.op (some 10) none (.un .not (.t 9)))]) (.cond (.t 10) (.seq (.reg [(.op (some 2) none (.mv (.c (.slice none 0 0)))),
  (.op (some 3) none (.mv (.c (.bool false))))]) .ret) .skip)) (.seq (.reg [(.op (some 12) none (.mv (.t 0))), (.op (some 13) none (.call 88 [(.t 12)])), (.op (some 11) none (.mv
  (.t 13))), (.op (some 14) none (.xt (.t 11) 0)), (.op (some 15) none (.xt (.t 11) 1)), (.op (some 4) none (.mv (.t 14))), (.op (some 5) none (.mv (.t 15)))]) (.seq
  (.reg [(.op (some 16) none (.mv (.t 0))), (.op (some 17) none (.lenL (.t 16))), (.op (some 18) none (.mks 3 [(.int .i64 0)] 8 (.t 17) (.t 17))), (.op (some 6) none
  (.alloc 38 [(.slice none 0 0)])), (.op none none (.st (.t 6) (.t 18)))]) (.seq (.seq (.reg [(.op (some 19) none (.mv (.t 4))), (.op (some 20) none (.nck (.t 19))),
  (.op (some 21) none (.fad 2 (.t 20))), (.op (some 22) none (.ld (.t 21))), (.op (some 23) none (.bin .geq (.t 22) (.c (.int .i64 0))))]) (.cond (.t 23) (.seq
  (.reg [(.op (some 24) none (.ld (.t 6))), (.op (some 25) none (.mv (.t 4))), (.op (some 26) none (.nck (.t 25))), (.op (some 27) none (.fad 2 (.t 26))), (.op (some 28) none (.ld
  (.t 27))), (.op (some 29) none (.iad 1 (.t 24) (.t 28))), (.op none none (.st (.t 29) (.c (.int .i64 1))))]) (.seq (.reg [(.op (some 30) none (.ld (.t 6))), (.op (some 2) none
  (.mv (.t 30))), (.op (some 3) none (.mv (.c (.bool true))))]) .ret)) .skip)) (.seq (.reg [(.op (some 7) none (.alloc 3 [(.int .i64 0)])), (.op none none (.st (.t 7) (.c
  (.int .i64 0))))]) (.seq (.reg [(.op (some 31) none (.mv (.t 4))), (.op (some 32) none (.mkf (.func 90) [] [(.t 6), (.t 7)])), (.op (some 33) none (.call 89 [(.t 31), (.c
  (.int .i64 0)), (.t 32)]))]) (.seq (.seq (.reg [(.op (some 34) none (.ld (.t 7))), (.op (some 35) none (.bin .gtr (.t 34) (.c (.int .i64 11))))]) (.cond (.t 35) (.seq
  (.reg [(.op (some 36) none (.mv (.t 0))), (.op (some 37) none (.call 91 [(.t 36)])), (.op (some 2) none (.mv (.t 37))), (.op (some 3) none (.mv (.c
  (.bool true))))]) .ret) .skip)) (.seq (.reg [(.op (some 38) none (.ld (.t 6))), (.op (some 2) none (.mv (.t 38))), (.op (some 3) none (.mv (.c (.bool true))))]) .ret))))))))),
  [(.t 2), (.t 3)]⟩
def k39 : KFunc := ⟨37, (.seq (.reg [(.op (some 2) none (.mv (.c (.bool false))))]) (.seq (.reg [(.op (some 3) none (.mv (.c (.bool false))))]) (.seq (.seq
  (.reg [(.op (some 4) none (.mv (.c (.int .i64 0))))]) (.block 0 (.loop (.seq (.seq (.reg [(.op (some 5) none (.mv (.t 4))), (.op (some 6) none (.mv (.t 0))), (.op (some 7) none
  (.lenL (.t 6))), (.op (some 8) none (.bin .lss (.t 5) (.t 7)))]) (.cond (.t 8) .skip (.exit 0))) (.seq (.block 1 (.seq (.seq (.reg [(.op (some 11) none (.mv (.t 0))),
  (.op (some 12) none (.mv (.t 4))), (.op (some 13) none (.iad 1 (.t 11) (.t 12))), (.op (some 14) none (.ld (.t 13))), (.op (some 15) none (.bin .lss (.t 14) (.c
  (.int .i64 0)))), (.op (some 16) none (.mv (.t 15))), (.op (some 17) (some (16, false)) (.mv (.t 0))), (.op (some 18) (some (16, false)) (.mv (.t 4))), (.op (some 19) (some (16,
  false)) (.iad 1 (.t 17) (.t 18))), (.op (some 20) (some (16, false)) (.ld (.t 19))), (.op (some 21) (some (16, false)) (.bin .gtr (.t 20) (.c (.int .i64 1048576)))),
  (.op (some 22) none (.pick (.t 16) (.c (.bool true)) (.t 21)))]) (.cond (.t 22) (.seq (.reg [(.op (some 2) none (.mv (.c (.bool false))))]) .ret) .skip))
  (.reg [(.op (some 23) none (.mv (.t 3))), (.op (some 24) none (.mv (.t 23))), (.op (some 25) (some (24, false)) (.mv (.t 0))), (.op (some 26) (some (24, false)) (.mv (.t 4))),
  (.op (some 27) (some (24, false)) (.iad 1 (.t 25) (.t 26))), (.op (some 28) (some (24, false)) (.ld (.t 27))), (.op (some 29) (some (24, false)) (.bin .gtr (.t 28) (.c
  (.int .i64 0)))), (.op (some 30) none (.pick (.t 24) (.c (.bool true)) (.t 29))), (.op (some 3) none (.mv (.t 30)))]))) (.reg [(.op (some 9) none (.mv (.t 4))),
  (.op (some 10) none (.bin .add (.t 9) (.c (.int .i64 1)))), (.op (some 4) none (.mv (.t 10)))])))))) (.seq (.reg [(.op (some 31) none (.mv (.t 3))), (.op (some 32) none (.mv
  (.t 31))), (.op (some 33) (some (32, true)) (.mv (.t 0))), (.op (some 34) (some (32, true)) (.lenL (.t 33))), (.op (some 35) (some (32, true)) (.bin .leq (.t 34) (.c
  (.int .i64 256)))), (.op (some 36) none (.pick (.t 32) (.t 35) (.c (.bool false)))), (.op (some 2) none (.mv (.t 36)))]) .ret)))), [(.t 2)]⟩
def k40 : KFunc := ⟨23, (.seq (.reg [(.op (some 2) none (.mv (.c (.int .i64 0))))]) (.seq (.seq (.reg [(.op (some 5) none (.mv (.t 0))), (.op (some 6) none (.call 87 [(.t 5)])),
  (.op (some 7) none (.un .not (.t 6)))]) (.cond (.t 7) (.seq (.reg [(.op (some 2) none (.mv (.c (.int .i64 0))))]) .ret) .skip)) (.seq (.reg [(.op (some 9) none (.mv (.t 0))),
  (.op (some 10) none (.call 88 [(.t 9)])), (.op (some 8) none (.mv (.t 10))), (.op (some 11) none (.xt (.t 8) 0)), (.op (some 12) none (.xt (.t 8) 1)), (.op (some 3) none (.mv
  (.t 11))), (.op (some 4) none (.mv (.t 12)))]) (.seq (.seq (.reg [(.op (some 13) none (.mv (.t 3))), (.op (some 14) none (.nck (.t 13))), (.op (some 15) none (.fad 2 (.t 14))),
  (.op (some 16) none (.ld (.t 15))), (.op (some 17) none (.bin .geq (.t 16) (.c (.int .i64 0))))]) (.cond (.t 17) (.seq (.reg [(.op (some 18) none (.mv (.t 3))),
  (.op (some 19) none (.nck (.t 18))), (.op (some 20) none (.fad 0 (.t 19))), (.op (some 21) none (.ld (.t 20))), (.op (some 2) none (.mv (.t 21)))]) .ret) .skip)) (.seq
  (.reg [(.op (some 22) none (.mv (.t 4))), (.op (some 2) none (.mv (.t 22)))]) .ret))))), [(.t 2)]⟩
def k41 : KFunc := ⟨38, (.seq (.reg [(.op (some 4) none (.mv (.c (.int .i64 0)))), (.op (some 5) none (.mv (.c (.bool false))))]) (.seq (.reg [(.op (some 6) none (.mv (.c
  (.int .i64 0))))]) (.seq (.seq (.reg [(.op (some 7) none (.mv (.c (.int .i64 0))))]) (.block 0 (.loop (.seq (.seq (.reg [(.op (some 8) none (.mv (.t 7))), (.op (some 9) none
  (.mv (.t 0))), (.op (some 10) none (.lenL (.t 9))), (.op (some 11) none (.bin .lss (.t 8) (.t 10)))]) (.cond (.t 11) .skip (.exit 0))) (.seq (.block 1 (.seq (.seq
  (.reg [(.op (some 14) none (.mv (.t 0))), (.op (some 15) none (.mv (.t 7))), (.op (some 16) none (.iad 1 (.t 14) (.t 15))), (.op (some 17) none (.ld (.t 16))),
  (.op (some 18) none (.bin .gtr (.t 17) (.c (.int .i64 0)))), (.op (some 19) none (.mv (.t 18))), (.op (some 20) (some (19, true)) (.mv (.t 1))), (.op (some 21) (some (19, true))
  (.mv (.t 7))), (.op (some 22) (some (19, true)) (.iad 1 (.t 20) (.t 21))), (.op (some 23) (some (19, true)) (.ld (.t 22))), (.op (some 24) (some (19, true)) (.bin .eql (.t 23)
  (.c (.int .i64 0)))), (.op (some 25) none (.pick (.t 19) (.t 24) (.c (.bool false))))]) (.cond (.t 25) (.seq (.reg [(.op (some 4) none (.mv (.c (.int .i64 0)))),
  (.op (some 5) none (.mv (.c (.bool false))))]) .ret) .skip)) (.reg [(.op (some 26) none (.mv (.t 6))), (.op (some 27) none (.mv (.t 0))), (.op (some 28) none (.mv (.t 7))),
  (.op (some 29) none (.iad 1 (.t 27) (.t 28))), (.op (some 30) none (.ld (.t 29))), (.op (some 31) none (.mv (.t 1))), (.op (some 32) none (.mv (.t 7))), (.op (some 33) none
  (.iad 1 (.t 31) (.t 32))), (.op (some 34) none (.ld (.t 33))), (.op (some 35) none (.bin .mul (.t 30) (.t 34))), (.op (some 36) none (.bin .add (.t 26) (.t 35))),
  (.op (some 6) none (.mv (.t 36)))]))) (.reg [(.op (some 12) none (.mv (.t 7))), (.op (some 13) none (.bin .add (.t 12) (.c (.int .i64 1)))), (.op (some 7) none (.mv
  (.t 13)))])))))) (.seq (.reg [(.op (some 37) none (.mv (.t 6))), (.op (some 4) none (.mv (.t 37))), (.op (some 5) none (.mv (.c (.bool true))))]) .ret)))), [(.t 4), (.t 5)]⟩
def k42 : KFunc := ⟨92, (.seq (.reg [(.op (some 2) none (.mv (.c (.int .i64 0))))]) (.seq (.reg [(.op (some 3) none (.mv (.c (.slice none 0 0))))]) (.seq (.seq
  (.reg [(.op (some 4) none (.mv (.c (.int .i64 0))))]) (.block 0 (.loop (.seq (.seq (.reg [(.op (some 10) none (.mv (.t 4))), (.op (some 11) none (.mv (.t 0))),
  (.op (some 12) none (.lenL (.t 11))), (.op (some 13) none (.bin .lss (.t 10) (.t 12)))]) (.cond (.t 13) .skip (.exit 0))) (.seq (.block 1 (.seq (.reg [(.op (some 16) none (.mv
  (.t 0))), (.op (some 17) none (.mv (.t 4))), (.op (some 18) none (.iad 1 (.t 16) (.t 17))), (.op (some 19) none (.ld (.t 18))), (.op (some 20) none (.bin .gtr (.t 19) (.c
  (.int .i64 0))))]) (.cond (.t 20) (.reg [(.op (some 21) none (.mv (.t 3))), (.op (some 22) none (.mv (.t 0))), (.op (some 23) none (.mv (.t 4))), (.op (some 24) none (.iad 1
  (.t 22) (.t 23))), (.op (some 25) none (.ld (.t 24))), (.op (some 26) none (.bsl 3 1 [(.int .i64 0)] [(0, (1, (.t 25)))])), (.op (some 27) none (.app 3 1 8 (.t 21) (.t 26))),
  (.op (some 3) none (.mv (.t 27)))]) .skip))) (.reg [(.op (some 14) none (.mv (.t 4))), (.op (some 15) none (.bin .add (.t 14) (.c (.int .i64 1)))), (.op (some 4) none (.mv
  (.t 15)))])))))) (.seq (.seq (.reg [(.op (some 28) none (.mv (.t 3))), (.op (some 29) none (.lenL (.t 28))), (.op (some 30) none (.bin .eql (.t 29) (.c (.int .i64 1))))]) (.cond
  (.t 30) (.seq (.reg [(.op (some 31) none (.mv (.t 3))), (.op (some 32) none (.iad 1 (.t 31) (.c (.int .i64 0)))), (.op (some 33) none (.ld (.t 32))), (.op (some 2) none (.mv
  (.t 33)))]) .ret) .skip)) (.seq (.reg [(.op (some 5) none (.mv (.c (.int .i64 0))))]) (.seq (.block 2 (.loop (.seq (.seq (.reg [(.op (some 34) none (.mv (.t 3))),
  (.op (some 35) none (.lenL (.t 34))), (.op (some 36) none (.bin .gtr (.t 35) (.c (.int .i64 1))))]) (.cond (.t 36) .skip (.exit 2))) (.block 3 (.seq (.seq
  (.reg [(.op (some 6) none (.mv (.c (.int .i64 0))))]) (.block 4 (.loop (.seq (.seq (.reg [(.op (some 37) none (.mv (.t 6))), (.op (some 38) none (.bin .lss (.t 37) (.c
  (.int .i64 2))))]) (.cond (.t 38) .skip (.exit 4))) (.seq (.block 5 (.seq (.reg [(.op (some 41) none (.mv (.t 3))), (.op (some 42) none (.lenL (.t 41))), (.op (some 43) none
  (.bin .sub (.t 42) (.c (.int .i64 1)))), (.op (some 7) none (.mv (.t 43)))]) (.block 6 (.loop (.seq (.seq (.reg [(.op (some 44) none (.mv (.t 7))), (.op (some 45) none (.mv
  (.t 6))), (.op (some 46) none (.bin .gtr (.t 44) (.t 45)))]) (.cond (.t 46) .skip (.exit 6))) (.seq (.block 7 (.seq (.reg [(.op (some 49) none (.mv (.t 3))), (.op (some 50) none
  (.mv (.t 7))), (.op (some 51) none (.iad 1 (.t 49) (.t 50))), (.op (some 52) none (.ld (.t 51))), (.op (some 53) none (.mv (.t 3))), (.op (some 54) none (.mv (.t 7))),
  (.op (some 55) none (.bin .sub (.t 54) (.c (.int .i64 1)))), (.op (some 56) none (.iad 1 (.t 53) (.t 55))), (.op (some 57) none (.ld (.t 56))), (.op (some 58) none (.bin .lss
  (.t 52) (.t 57)))]) (.cond (.t 58) (.seq (.reg [(.op (some 59) none (.mv (.t 3))), (.op (some 60) none (.mv (.t 7))), (.op (some 61) none (.iad 1 (.t 59) (.t 60))),
  (.op (some 62) none (.ld (.t 61))), (.op (some 8) none (.mv (.t 62)))]) (.seq (.reg [(.op (some 63) none (.mv (.t 3))), (.op (some 64) none (.mv (.t 7))), (.op (some 65) none
  (.mv (.t 3))), (.op (some 66) none (.mv (.t 7))), (.op (some 67) none (.bin .sub (.t 66) (.c (.int .i64 1)))), (.op (some 68) none (.iad 1 (.t 65) (.t 67))), (.op (some 69) none
  (.ld (.t 68))), (.op (some 70) none (.iad 1 (.t 63) (.t 64))), (.op none none (.st (.t 70) (.t 69)))]) (.reg [(.op (some 71) none (.mv (.t 3))), (.op (some 72) none (.mv
  (.t 7))), (.op (some 73) none (.bin .sub (.t 72) (.c (.int .i64 1)))), (.op (some 74) none (.mv (.t 8))), (.op (some 75) none (.iad 1 (.t 71) (.t 73))), (.op none none (.st
  (.t 75) (.t 74)))]))) .skip))) (.reg [(.op (some 47) none (.mv (.t 7))), (.op (some 48) none (.bin .sub (.t 47) (.c (.int .i64 1)))), (.op (some 7) none (.mv (.t 48)))])))))))
  (.reg [(.op (some 39) none (.mv (.t 6))), (.op (some 40) none (.bin .add (.t 39) (.c (.int .i64 1)))), (.op (some 6) none (.mv (.t 40)))])))))) (.seq (.reg [(.op (some 76) none
  (.mv (.t 3))), (.op (some 77) none (.iad 1 (.t 76) (.c (.int .i64 0)))), (.op (some 78) none (.ld (.t 77))), (.op (some 79) none (.mv (.t 3))), (.op (some 80) none (.iad 1
  (.t 79) (.c (.int .i64 1)))), (.op (some 81) none (.ld (.t 80))), (.op (some 82) none (.bin .add (.t 78) (.t 81))), (.op (some 9) none (.mv (.t 82)))]) (.seq
  (.reg [(.op (some 83) none (.mv (.t 5))), (.op (some 84) none (.mv (.t 9))), (.op (some 85) none (.bin .add (.t 83) (.t 84))), (.op (some 5) none (.mv (.t 85)))])
  (.reg [(.op (some 86) none (.mv (.t 3))), (.op (some 87) none (.slc 3 1 (.t 86) (some (.c (.int .i64 2))) none)), (.op (some 88) none (.mv (.t 9))), (.op (some 89) none
  (.bsl 3 1 [(.int .i64 0)] [(0, (1, (.t 88)))])), (.op (some 90) none (.app 3 1 8 (.t 87) (.t 89))), (.op (some 3) none (.mv (.t 90)))])))))))) (.seq (.reg [(.op (some 91) none
  (.mv (.t 5))), (.op (some 2) none (.mv (.t 91)))]) .ret))))))), [(.t 2)]⟩
def k43 : KFunc := ⟨50, (.seq (.reg [(.op (some 4) none (.mv (.c (.int .i64 0)))), (.op (some 5) none (.mv (.c (.bool false))))]) (.seq (.seq (.reg [(.op (some 9) none (.mv
  (.t 0))), (.op (some 10) none (.call 87 [(.t 9)])), (.op (some 11) none (.un .not (.t 10))), (.op (some 12) none (.mv (.t 11))), (.op (some 13) (some (12, false)) (.mv (.t 1))),
  (.op (some 14) (some (12, false)) (.lenL (.t 13))), (.op (some 15) (some (12, false)) (.mv (.t 0))), (.op (some 16) (some (12, false)) (.lenL (.t 15))),
  (.op (some 17) (some (12, false)) (.bin .lss (.t 14) (.t 16))), (.op (some 18) none (.pick (.t 12) (.c (.bool true)) (.t 17))), (.op (some 19) none (.mv (.t 18))),
  (.op (some 20) (some (19, false)) (.mv (.t 1))), (.op (some 21) (some (19, false)) (.call 92 [(.t 20)])), (.op (some 22) (some (19, false)) (.un .not (.t 21))),
  (.op (some 23) none (.pick (.t 19) (.c (.bool true)) (.t 22)))]) (.cond (.t 23) (.seq (.reg [(.op (some 4) none (.mv (.c (.int .i64 0)))), (.op (some 5) none (.mv (.c
  (.bool false))))]) .ret) .skip)) (.seq (.reg [(.op (some 6) none (.mv (.c (.int .i64 0))))]) (.seq (.seq (.reg [(.op (some 24) none (.mv (.t 0))), (.op (some 25) none (.lenL
  (.t 24))), (.op (some 26) none (.mv (.c (.int .i64 0))))]) (.block 0 (.loop (.seq (.reg [(.op (some 27) none (.bin .lss (.t 26) (.t 25)))]) (.seq (.cond (.t 27) .skip (.exit 0))
  (.seq (.block 1 (.seq (.reg [(.op (some 28) none (.mv (.t 26))), (.op (some 29) none (.iad 1 (.t 24) (.t 26))), (.op (some 30) none (.ld (.t 29))), (.op (some 7) none (.mv
  (.t 28))), (.op (some 8) none (.mv (.t 30)))]) (.seq (.seq (.reg [(.op (some 31) none (.mv (.t 8))), (.op (some 32) none (.bin .gtr (.t 31) (.c (.int .i64 0)))),
  (.op (some 33) none (.mv (.t 32))), (.op (some 34) (some (33, true)) (.mv (.t 1))), (.op (some 35) (some (33, true)) (.mv (.t 7))), (.op (some 36) (some (33, true)) (.iad 1
  (.t 34) (.t 35))), (.op (some 37) (some (33, true)) (.ld (.t 36))), (.op (some 38) (some (33, true)) (.bin .eql (.t 37) (.c (.int .i64 0)))), (.op (some 39) none (.pick (.t 33)
  (.t 38) (.c (.bool false))))]) (.cond (.t 39) (.seq (.reg [(.op (some 4) none (.mv (.c (.int .i64 0)))), (.op (some 5) none (.mv (.c (.bool false))))]) .ret) .skip))
  (.reg [(.op (some 40) none (.mv (.t 6))), (.op (some 41) none (.mv (.t 8))), (.op (some 42) none (.mv (.t 1))), (.op (some 43) none (.mv (.t 7))), (.op (some 44) none (.iad 1
  (.t 42) (.t 43))), (.op (some 45) none (.ld (.t 44))), (.op (some 46) none (.bin .mul (.t 41) (.t 45))), (.op (some 47) none (.bin .add (.t 40) (.t 46))), (.op (some 6) none
  (.mv (.t 47)))])))) (.reg [(.op (some 48) none (.bin .add (.t 26) (.c (.int .i64 1)))), (.op (some 26) none (.mv (.t 48)))]))))))) (.seq (.reg [(.op (some 49) none (.mv
  (.t 6))), (.op (some 4) none (.mv (.t 49))), (.op (some 5) none (.mv (.c (.bool true))))]) .ret))))), [(.t 4), (.t 5)]⟩
def k44 : KFunc := ⟨108, (.seq (.reg [(.op (some 2) none (.mv (.c (.int .i64 0))))]) (.seq (.reg [(.op (some 3) none (.mv (.c (.slice none 0 0))))]) (.seq (.seq
  (.reg [(.op (some 4) none (.mv (.c (.int .i64 0))))]) (.block 0 (.loop (.seq (.seq (.reg [(.op (some 11) none (.mv (.t 4))), (.op (some 12) none (.mv (.t 0))),
  (.op (some 13) none (.lenL (.t 12))), (.op (some 14) none (.bin .lss (.t 11) (.t 13)))]) (.cond (.t 14) .skip (.exit 0))) (.seq (.block 1 (.seq (.reg [(.op (some 17) none (.mv
  (.t 0))), (.op (some 18) none (.mv (.t 4))), (.op (some 19) none (.iad 1 (.t 17) (.t 18))), (.op (some 20) none (.ld (.t 19))), (.op (some 21) none (.bin .gtr (.t 20) (.c
  (.int .i64 0))))]) (.cond (.t 21) (.reg [(.op (some 22) none (.mv (.t 3))), (.op (some 23) none (.mv (.t 0))), (.op (some 24) none (.mv (.t 4))), (.op (some 25) none (.iad 1
  (.t 23) (.t 24))), (.op (some 26) none (.ld (.t 25))), (.op (some 27) none (.bsl 3 1 [(.int .i64 0)] [(0, (1, (.t 26)))])), (.op (some 28) none (.app 3 1 8 (.t 22) (.t 27))),
  (.op (some 3) none (.mv (.t 28)))]) .skip))) (.reg [(.op (some 15) none (.mv (.t 4))), (.op (some 16) none (.bin .add (.t 15) (.c (.int .i64 1)))), (.op (some 4) none (.mv
  (.t 16)))])))))) (.seq (.seq (.reg [(.op (some 29) none (.mv (.t 3))), (.op (some 30) none (.lenL (.t 29))), (.op (some 31) none (.bin .eql (.t 30) (.c (.int .i64 1))))]) (.cond
  (.t 31) (.seq (.reg [(.op (some 32) none (.mv (.t 3))), (.op (some 33) none (.iad 1 (.t 32) (.c (.int .i64 0)))), (.op (some 34) none (.ld (.t 33))), (.op (some 2) none (.mv
  (.t 34)))]) .ret) .skip)) (.seq (.reg [(.op (some 35) none (.mv (.t 3))), (.op (some 36) none (.lenL (.t 35))), (.op (some 37) none (.bin .sub (.t 36) (.c (.int .i64 1)))),
  (.op (some 38) none (.cvt .u32 (.t 37))), (.op (some 39) none (.call 93 [(.t 38)])), (.op (some 5) none (.mv (.t 39)))]) (.seq (.seq (.reg [(.op (some 6) none (.mv (.c
  (.int .i64 0))))]) (.block 2 (.loop (.seq (.seq (.reg [(.op (some 40) none (.mv (.t 6))), (.op (some 41) none (.mv (.t 3))), (.op (some 42) none (.lenL (.t 41))),
  (.op (some 43) none (.bin .lss (.t 40) (.t 42)))]) (.cond (.t 43) .skip (.exit 2))) (.seq (.block 3 (.seq (.reg [(.op (some 46) none (.mv (.t 6))), (.op (some 7) none (.mv
  (.t 46)))]) (.block 4 (.loop (.seq (.seq (.reg [(.op (some 47) none (.mv (.t 7))), (.op (some 48) none (.bin .gtr (.t 47) (.c (.int .i64 0)))), (.op (some 49) none (.mv
  (.t 48))), (.op (some 50) (some (49, true)) (.mv (.t 3))), (.op (some 51) (some (49, true)) (.mv (.t 7))), (.op (some 52) (some (49, true)) (.iad 1 (.t 50) (.t 51))),
  (.op (some 53) (some (49, true)) (.ld (.t 52))), (.op (some 54) (some (49, true)) (.mv (.t 3))), (.op (some 55) (some (49, true)) (.mv (.t 7))), (.op (some 56) (some (49, true))
  (.bin .sub (.t 55) (.c (.int .i64 1)))), (.op (some 57) (some (49, true)) (.iad 1 (.t 54) (.t 56))), (.op (some 58) (some (49, true)) (.ld (.t 57))), (.op (some 59) (some (49,
  true)) (.bin .gtr (.t 53) (.t 58))), (.op (some 60) none (.pick (.t 49) (.t 59) (.c (.bool false))))]) (.cond (.t 60) .skip (.exit 4))) (.seq (.block 5 (.seq
  (.reg [(.op (some 63) none (.mv (.t 3))), (.op (some 64) none (.mv (.t 7))), (.op (some 65) none (.iad 1 (.t 63) (.t 64))), (.op (some 66) none (.ld (.t 65))),
  (.op (some 8) none (.mv (.t 66)))]) (.seq (.reg [(.op (some 67) none (.mv (.t 3))), (.op (some 68) none (.mv (.t 7))), (.op (some 69) none (.mv (.t 3))), (.op (some 70) none
  (.mv (.t 7))), (.op (some 71) none (.bin .sub (.t 70) (.c (.int .i64 1)))), (.op (some 72) none (.iad 1 (.t 69) (.t 71))), (.op (some 73) none (.ld (.t 72))),
  (.op (some 74) none (.iad 1 (.t 67) (.t 68))), (.op none none (.st (.t 74) (.t 73)))]) (.reg [(.op (some 75) none (.mv (.t 3))), (.op (some 76) none (.mv (.t 7))),
  (.op (some 77) none (.bin .sub (.t 76) (.c (.int .i64 1)))), (.op (some 78) none (.mv (.t 8))), (.op (some 79) none (.iad 1 (.t 75) (.t 77))), (.op none none (.st (.t 79)
  (.t 78)))])))) (.reg [(.op (some 61) none (.mv (.t 7))), (.op (some 62) none (.bin .sub (.t 61) (.c (.int .i64 1)))), (.op (some 7) none (.mv (.t 62)))])))))))
  (.reg [(.op (some 44) none (.mv (.t 6))), (.op (some 45) none (.bin .add (.t 44) (.c (.int .i64 1)))), (.op (some 6) none (.mv (.t 45)))])))))) (.seq (.reg [(.op (some 9) none
  (.mv (.c (.int .i64 0))))]) (.seq (.seq (.reg [(.op (some 10) none (.mv (.c (.int .i64 0))))]) (.block 6 (.loop (.seq (.seq (.reg [(.op (some 80) none (.mv (.t 10))),
  (.op (some 81) none (.mv (.t 3))), (.op (some 82) none (.lenL (.t 81))), (.op (some 83) none (.bin .lss (.t 80) (.t 82)))]) (.cond (.t 83) .skip (.exit 6))) (.seq (.block 7
  (.seq (.reg [(.op (some 86) none (.mv (.t 9))), (.op (some 87) none (.mv (.t 3))), (.op (some 88) none (.mv (.t 10))), (.op (some 89) none (.iad 1 (.t 87) (.t 88))),
  (.op (some 90) none (.ld (.t 89))), (.op (some 91) none (.mv (.t 5))), (.op (some 92) none (.bin .mul (.t 90) (.t 91))), (.op (some 93) none (.bin .add (.t 86) (.t 92))),
  (.op (some 9) none (.mv (.t 93)))]) (.seq (.reg [(.op (some 94) none (.mv (.t 10))), (.op (some 95) none (.mv (.t 5))), (.op (some 96) none (.call 60 [(.t 95)])),
  (.op (some 97) none (.mv (.t 3))), (.op (some 98) none (.lenL (.t 97))), (.op (some 99) none (.bin .sub (.t 96) (.t 98))), (.op (some 100) none (.bin .lss (.t 94) (.t 99)))])
  (.cond (.t 100) (.reg [(.op (some 101) none (.mv (.t 9))), (.op (some 102) none (.mv (.t 3))), (.op (some 103) none (.mv (.t 10))), (.op (some 104) none (.iad 1 (.t 102)
  (.t 103))), (.op (some 105) none (.ld (.t 104))), (.op (some 106) none (.bin .sub (.t 101) (.t 105))), (.op (some 9) none (.mv (.t 106)))]) .skip)))) (.reg [(.op (some 84) none
  (.mv (.t 10))), (.op (some 85) none (.bin .add (.t 84) (.c (.int .i64 1)))), (.op (some 10) none (.mv (.t 85)))])))))) (.seq (.reg [(.op (some 107) none (.mv (.t 9))),
  (.op (some 2) none (.mv (.t 107)))]) .ret))))))))), [(.t 2)]⟩
def k49 : KFunc := ⟨6, (.seq (.reg [(.op (some 2) none (.mv (.c (.pointer none))))]) (.seq (.reg [(.op (some 3) none (.mv (.t 0))), (.op (some 4) none (.build [(.string (bs [])),
  (.bool false)] [(0, (1, (.t 3)))])), (.op (some 5) none (.box 134 (.t 4))), (.op (some 2) none (.mv (.t 5)))]) .ret)), [(.t 2)]⟩
def k57 : KFunc := ⟨12, (.seq (.reg [(.op (some 2) none (.mv (.c (.string (bs [])))))]) (.seq (.seq (.reg [(.op (some 3) none (.mv (.t 0))), (.op (some 4) none
  (.call 101 [(.t 3)]))]) (.cond (.t 4) (.seq (.reg [(.op (some 2) none (.mv (.c (.string (bs [])))))]) .ret) .skip)) (.seq (.reg [(.op (some 5) none (.mv (.t 0))),
  (.op (some 6) none (.mv (.t 0))), (.op (some 7) none (.nck (.t 6))), (.op (some 8) none (.fad 0 (.t 7))), (.op (some 9) none (.ld (.t 8))), (.op (some 10) none (.lenS (.t 9))),
  (.op (some 11) none (.call 102 [(.t 5), (.t 10)])), (.op (some 2) none (.mv (.t 11)))]) .ret))), [(.t 2)]⟩
def k59 : KFunc := ⟨25, (.seq (.reg [(.op (some 2) none (.mv (.c (.bool false))))]) (.seq (.seq (.reg [(.op (some 3) none (.mv (.c (.int .i64 0))))]) (.block 0 (.loop (.seq (.seq
  (.reg [(.op (some 4) none (.mv (.t 3))), (.op (some 5) none (.mv (.t 0))), (.op (some 6) none (.lenL (.t 5))), (.op (some 7) none (.bin .lss (.t 4) (.t 6)))]) (.cond
  (.t 7) .skip (.exit 0))) (.seq (.block 1 (.seq (.reg [(.op (some 10) none (.mv (.t 0))), (.op (some 11) none (.mv (.t 3))), (.op (some 12) none (.iad 1 (.t 10) (.t 11))),
  (.op (some 13) none (.ld (.t 12))), (.op (some 14) none (.bin .lss (.t 13) (.c (.int .i64 0)))), (.op (some 15) none (.mv (.t 14))), (.op (some 16) (some (15, false)) (.mv
  (.t 0))), (.op (some 17) (some (15, false)) (.mv (.t 3))), (.op (some 18) (some (15, false)) (.iad 1 (.t 16) (.t 17))), (.op (some 19) (some (15, false)) (.ld (.t 18))),
  (.op (some 20) (some (15, false)) (.bin .gtr (.t 19) (.c (.int .i64 11)))), (.op (some 21) none (.pick (.t 15) (.c (.bool true)) (.t 20)))]) (.cond (.t 21) (.seq
  (.reg [(.op (some 2) none (.mv (.c (.bool false))))]) .ret) .skip))) (.reg [(.op (some 8) none (.mv (.t 3))), (.op (some 9) none (.bin .add (.t 8) (.c (.int .i64 1)))),
  (.op (some 3) none (.mv (.t 9)))])))))) (.seq (.reg [(.op (some 22) none (.mv (.t 0))), (.op (some 23) none (.lenL (.t 22))), (.op (some 24) none (.bin .leq (.t 23) (.c
  (.int .i64 256)))), (.op (some 2) none (.mv (.t 24)))]) .ret))), [(.t 2)]⟩
def k60 : KFunc := ⟨13, (.seq (.reg [(.op (some 2) none (.mv (.c (.int .i64 0))))]) (.seq (.reg [(.op (some 3) none (.mv (.c (.int .i64 1))))]) (.seq (.seq
  (.reg [(.op (some 4) none (.mv (.c (.int .i64 0))))]) (.block 0 (.loop (.seq (.seq (.reg [(.op (some 5) none (.mv (.t 4))), (.op (some 6) none (.mv (.t 0))), (.op (some 7) none
  (.bin .lss (.t 5) (.t 6)))]) (.cond (.t 7) .skip (.exit 0))) (.seq (.block 1 (.reg [(.op (some 10) none (.mv (.t 3))), (.op (some 11) none (.bin .mul (.t 10) (.c
  (.int .i64 2)))), (.op (some 3) none (.mv (.t 11)))])) (.reg [(.op (some 8) none (.mv (.t 4))), (.op (some 9) none (.bin .add (.t 8) (.c (.int .i64 1)))), (.op (some 4) none
  (.mv (.t 9)))])))))) (.seq (.reg [(.op (some 12) none (.mv (.t 3))), (.op (some 2) none (.mv (.t 12)))]) .ret)))), [(.t 2)]⟩
def k61 : KFunc := ⟨38, (.seq (.reg [(.op (some 2) none (.mv (.c (.bool false))))]) (.seq (.seq (.reg [(.op (some 8) none (.mv (.t 0))), (.op (some 9) none (.call 92 [(.t 8)])),
  (.op (some 10) none (.un .not (.t 9)))]) (.cond (.t 10) (.seq (.reg [(.op (some 2) none (.mv (.c (.bool false))))]) .ret) .skip)) (.seq (.reg [(.op (some 3) none (.mv (.c
  (.int .i64 2048)))), (.op (some 4) none (.mv (.c (.int .i64 0)))), (.op (some 5) none (.mv (.c (.bool false))))]) (.seq (.seq (.reg [(.op (some 11) none (.mv (.t 0))),
  (.op (some 12) none (.lenL (.t 11))), (.op (some 13) none (.mv (.c (.int .i64 0))))]) (.block 0 (.loop (.seq (.reg [(.op (some 14) none (.bin .lss (.t 13) (.t 12)))]) (.seq
  (.cond (.t 14) .skip (.exit 0)) (.seq (.block 1 (.seq (.reg [(.op (some 15) none (.iad 1 (.t 11) (.t 13))), (.op (some 16) none (.ld (.t 15))), (.op (some 7) none (.mv
  (.t 16)))]) (.seq (.reg [(.op (some 17) none (.mv (.t 7))), (.op (some 18) none (.bin .gtr (.t 17) (.c (.int .i64 0))))]) (.cond (.t 18) (.seq (.reg [(.op (some 19) none (.mv
  (.t 3))), (.op (some 20) none (.mv (.t 7))), (.op (some 21) none (.bin .sub (.c (.int .i64 11)) (.t 20))), (.op (some 22) none (.bin .shl (.c (.int .i64 1)) (.t 21))),
  (.op (some 23) none (.bin .sub (.t 19) (.t 22))), (.op (some 3) none (.mv (.t 23)))]) (.seq (.reg [(.op (some 24) none (.mv (.t 4))), (.op (some 25) none (.bin .add (.t 24) (.c
  (.int .i64 1)))), (.op (some 4) none (.mv (.t 25)))]) (.reg [(.op (some 26) none (.mv (.t 7))), (.op (some 27) none (.bin .eql (.t 26) (.c (.int .i64 1)))), (.op (some 5) none
  (.mv (.t 27)))]))) .skip)))) (.reg [(.op (some 28) none (.bin .add (.t 13) (.c (.int .i64 1)))), (.op (some 13) none (.mv (.t 28)))]))))))) (.seq (.reg [(.op (some 29) none (.mv
  (.t 3))), (.op (some 30) none (.bin .eql (.t 29) (.c (.int .i64 0)))), (.op (some 31) none (.mv (.t 30))), (.op (some 32) (some (31, false)) (.mv (.t 4))),
  (.op (some 33) (some (31, false)) (.bin .eql (.t 32) (.c (.int .i64 1)))), (.op (some 34) (some (31, false)) (.mv (.t 33))), (.op (some 35) (some (34, true)) (.mv (.t 5))),
  (.op (some 36) (some (31, false)) (.pick (.t 34) (.t 35) (.c (.bool false)))), (.op (some 37) none (.pick (.t 31) (.c (.bool true)) (.t 36))), (.op (some 2) none (.mv
  (.t 37)))]) .ret))))), [(.t 2)]⟩
def k70 : KFunc := ⟨39, (.seq (.reg [(.op (some 2) none (.mv (.c (.slice none 0 0)))), (.op (some 3) none (.mv (.c (.bool false))))]) (.seq (.seq (.reg [(.op (some 9) none (.mv
  (.t 0))), (.op (some 10) none (.call 61 [(.t 9)])), (.op (some 11) none (.un .not (.t 10)))]) (.cond (.t 11) (.seq (.reg [(.op (some 2) none (.mv (.c (.slice none 0 0)))),
  (.op (some 3) none (.mv (.c (.bool false))))]) .ret) .skip)) (.seq (.reg [(.op (some 12) none (.mv (.t 0))), (.op (some 13) none (.lenL (.t 12))), (.op (some 14) none
  (.mks 3 [(.int .i64 0)] 8 (.t 13) (.t 13))), (.op (some 4) none (.mv (.t 14)))]) (.seq (.reg [(.op (some 5) none (.mv (.c (.int .i64 0))))]) (.seq (.seq
  (.reg [(.op (some 6) none (.mv (.c (.int .i64 1))))]) (.block 0 (.loop (.seq (.seq (.reg [(.op (some 15) none (.mv (.t 6))), (.op (some 16) none (.bin .leq (.t 15) (.c
  (.int .i64 11))))]) (.cond (.t 16) .skip (.exit 0))) (.seq (.block 1 (.seq (.seq (.reg [(.op (some 19) none (.mv (.t 0))), (.op (some 20) none (.lenL (.t 19))),
  (.op (some 21) none (.mv (.c (.int .i64 0))))]) (.block 2 (.loop (.seq (.reg [(.op (some 22) none (.bin .lss (.t 21) (.t 20)))]) (.seq (.cond (.t 22) .skip (.exit 2)) (.seq
  (.block 3 (.seq (.reg [(.op (some 23) none (.mv (.t 21))), (.op (some 24) none (.iad 1 (.t 19) (.t 21))), (.op (some 25) none (.ld (.t 24))), (.op (some 7) none (.mv (.t 23))),
  (.op (some 8) none (.mv (.t 25)))]) (.seq (.reg [(.op (some 26) none (.mv (.t 8))), (.op (some 27) none (.mv (.t 6))), (.op (some 28) none (.bin .eql (.t 26) (.t 27)))]) (.cond
  (.t 28) (.seq (.reg [(.op (some 29) none (.mv (.t 4))), (.op (some 30) none (.mv (.t 7))), (.op (some 31) none (.mv (.t 5))), (.op (some 32) none (.iad 1 (.t 29) (.t 30))),
  (.op none none (.st (.t 32) (.t 31)))]) (.reg [(.op (some 33) none (.mv (.t 5))), (.op (some 34) none (.bin .add (.t 33) (.c (.int .i64 1)))), (.op (some 5) none (.mv
  (.t 34)))])) .skip)))) (.reg [(.op (some 35) none (.bin .add (.t 21) (.c (.int .i64 1)))), (.op (some 21) none (.mv (.t 35)))]))))))) (.reg [(.op (some 36) none (.mv (.t 5))),
  (.op (some 37) none (.bin .shl (.t 36) (.c (.int .u64 1)))), (.op (some 5) none (.mv (.t 37)))]))) (.reg [(.op (some 17) none (.mv (.t 6))), (.op (some 18) none (.bin .add
  (.t 17) (.c (.int .i64 1)))), (.op (some 6) none (.mv (.t 18)))])))))) (.seq (.reg [(.op (some 38) none (.mv (.t 4))), (.op (some 2) none (.mv (.t 38))), (.op (some 3) none (.mv
  (.c (.bool true))))]) .ret)))))), [(.t 2), (.t 3)]⟩
def k87 : KFunc := ⟨24, (.seq (.reg [(.op (some 2) none (.mv (.c (.bool false))))]) (.seq (.seq (.reg [(.op (some 5) none (.mv (.t 0))), (.op (some 6) none (.lenL (.t 5))),
  (.op (some 7) none (.bin .gtr (.t 6) (.c (.int .i64 256))))]) (.cond (.t 7) (.seq (.reg [(.op (some 2) none (.mv (.c (.bool false))))]) .ret) .skip)) (.seq (.seq
  (.reg [(.op (some 8) none (.mv (.t 0))), (.op (some 9) none (.lenL (.t 8))), (.op (some 10) none (.mv (.c (.int .i64 0))))]) (.block 0 (.loop (.seq (.reg [(.op (some 11) none
  (.bin .lss (.t 10) (.t 9)))]) (.seq (.cond (.t 11) .skip (.exit 0)) (.seq (.block 1 (.seq (.reg [(.op (some 12) none (.iad 1 (.t 8) (.t 10))), (.op (some 13) none (.ld
  (.t 12))), (.op (some 4) none (.mv (.t 13)))]) (.seq (.reg [(.op (some 14) none (.mv (.t 4))), (.op (some 15) none (.bin .lss (.t 14) (.c (.int .i64 0)))), (.op (some 16) none
  (.mv (.t 15))), (.op (some 17) (some (16, false)) (.mv (.t 4))), (.op (some 18) (some (16, false)) (.bin .gtr (.t 17) (.c (.int .i64 1048576)))), (.op (some 19) none (.pick
  (.t 16) (.c (.bool true)) (.t 18)))]) (.cond (.t 19) (.seq (.reg [(.op (some 2) none (.mv (.c (.bool false))))]) .ret) .skip)))) (.reg [(.op (some 20) none (.bin .add (.t 10)
  (.c (.int .i64 1)))), (.op (some 10) none (.mv (.t 20)))]))))))) (.seq (.reg [(.op (some 21) none (.mv (.t 0))), (.op (some 22) none (.call 118 [(.t 21)])), (.op (some 23) none
  (.bin .gtr (.t 22) (.c (.int .i64 0)))), (.op (some 2) none (.mv (.t 23)))]) .ret)))), [(.t 2)]⟩
def k88 : KFunc := ⟨78, (.seq (.reg [(.op (some 2) none (.mv (.c (.pointer none)))), (.op (some 3) none (.mv (.c (.int .i64 0))))]) (.seq (.reg [(.op (some 12) none
  (.bsl 120 0 [] [])), (.op (some 13) none (.box 159 (.t 12))), (.op (some 4) none (.mv (.t 13)))]) (.seq (.seq (.reg [(.op (some 14) none (.mv (.t 0))), (.op (some 15) none
  (.lenL (.t 14))), (.op (some 16) none (.mv (.c (.int .i64 0))))]) (.block 0 (.loop (.seq (.reg [(.op (some 17) none (.bin .lss (.t 16) (.t 15)))]) (.seq (.cond (.t 17) .skip
  (.exit 0)) (.seq (.block 1 (.seq (.reg [(.op (some 18) none (.mv (.t 16))), (.op (some 19) none (.iad 1 (.t 14) (.t 16))), (.op (some 20) none (.ld (.t 19))), (.op (some 5) none
  (.mv (.t 18))), (.op (some 6) none (.mv (.t 20)))]) (.seq (.reg [(.op (some 21) none (.mv (.t 6))), (.op (some 22) none (.bin .gtr (.t 21) (.c (.int .i64 0))))]) (.cond (.t 22)
  (.reg [(.op (some 23) none (.mv (.t 4))), (.op (some 24) none (.mv (.t 4))), (.op (some 25) none (.nck (.t 24))), (.op (some 26) none (.ld (.t 25))), (.op (some 27) none (.mv
  (.t 6))), (.op (some 28) none (.mv (.t 5))), (.op (some 29) none (.mv (.t 5))), (.op (some 30) none (.build [(.int .i64 0), (.int .i64 0), (.int .i64 0), (.pointer none),
  (.pointer none)] [(0, (1, (.t 27))), (1, (1, (.t 28))), (2, (1, (.t 29)))])), (.op (some 31) none (.box 124 (.t 30))), (.op (some 32) none (.bsl 120 1 [(.pointer none)] [(0, (1,
  (.t 31)))])), (.op (some 33) none (.app 120 1 8 (.t 26) (.t 32))), (.op (some 34) none (.nck (.t 23))), (.op none none (.st (.t 34) (.t 33)))]) .skip))))
  (.reg [(.op (some 35) none (.bin .add (.t 16) (.c (.int .i64 1)))), (.op (some 16) none (.mv (.t 35)))]))))))) (.seq (.reg [(.op (some 36) none (.mv (.t 4))),
  (.op (some 37) none (.mki 157 (.t 36))), (.op (some 38) none (.call 111 [(.t 37)]))]) (.seq (.reg [(.op (some 7) none (.mv (.c (.int .i64 0))))]) (.seq (.seq
  (.reg [(.op (some 8) none (.mv (.c (.int .i64 256))))]) (.block 2 (.loop (.seq (.seq (.reg [(.op (some 39) none (.mv (.t 4))), (.op (some 40) none (.nck (.t 39))),
  (.op (some 41) none (.ld (.t 40))), (.op (some 42) none (.call 119 [(.t 41)])), (.op (some 43) none (.bin .gtr (.t 42) (.c (.int .i64 1))))]) (.cond (.t 43) .skip (.exit 2)))
  (.seq (.block 3 (.seq (.reg [(.op (some 46) none (.mv (.t 4))), (.op (some 47) none (.call 120 [(.t 46)])), (.op (some 48) none (.mv (.t 4))), (.op (some 49) none
  (.call 120 [(.t 48)])), (.op (some 9) none (.mv (.t 47))), (.op (some 10) none (.mv (.t 49)))]) (.seq (.reg [(.op (some 50) none (.mv (.t 9))), (.op (some 51) none (.nck
  (.t 50))), (.op (some 52) none (.fad 0 (.t 51))), (.op (some 53) none (.ld (.t 52))), (.op (some 54) none (.mv (.t 10))), (.op (some 55) none (.nck (.t 54))),
  (.op (some 56) none (.fad 0 (.t 55))), (.op (some 57) none (.ld (.t 56))), (.op (some 58) none (.bin .add (.t 53) (.t 57))), (.op (some 59) none (.mv (.t 8))),
  (.op (some 60) none (.mv (.t 9))), (.op (some 61) none (.mv (.t 10))), (.op (some 62) none (.build [(.int .i64 0), (.int .i64 0), (.int .i64 0), (.pointer none),
  (.pointer none)] [(0, (1, (.t 58))), (1, (1, (.t 59))), (2, (1, (.c (.int .i64 (-1))))), (3, (1, (.t 60))), (4, (1, (.t 61)))])), (.op (some 63) none (.box 124 (.t 62))),
  (.op (some 11) none (.mv (.t 63)))]) (.seq (.reg [(.op (some 64) none (.mv (.t 7))), (.op (some 65) none (.mv (.t 11))), (.op (some 66) none (.nck (.t 65))), (.op (some 67) none
  (.fad 0 (.t 66))), (.op (some 68) none (.ld (.t 67))), (.op (some 69) none (.bin .add (.t 64) (.t 68))), (.op (some 7) none (.mv (.t 69)))]) (.reg [(.op (some 70) none (.mv
  (.t 4))), (.op (some 71) none (.mki 157 (.t 70))), (.op (some 72) none (.mv (.t 11))), (.op (some 73) none (.mki 120 (.t 72))), (.op (some 74) none (.call 114 [(.t 71),
  (.t 73)]))]))))) (.reg [(.op (some 44) none (.mv (.t 8))), (.op (some 45) none (.bin .add (.t 44) (.c (.int .i64 1)))), (.op (some 8) none (.mv (.t 45)))])))))) (.seq
  (.reg [(.op (some 75) none (.mv (.t 4))), (.op (some 76) none (.call 120 [(.t 75)])), (.op (some 77) none (.mv (.t 7))), (.op (some 2) none (.mv (.t 76))), (.op (some 3) none
  (.mv (.t 77)))]) .ret))))))), [(.t 2), (.t 3)]⟩
def k89 : KFunc := ⟨34, (.seq (.seq (.reg [(.op (some 6) none (.mv (.t 0))), (.op (some 7) none (.nck (.t 6))), (.op (some 8) none (.fad 2 (.t 7))), (.op (some 9) none (.ld
  (.t 8))), (.op (some 10) none (.bin .geq (.t 9) (.c (.int .i64 0))))]) (.cond (.t 10) (.seq (.reg [(.op (some 11) none (.mv (.t 2))), (.op (some 12) none (.mv (.t 0))),
  (.op (some 13) none (.nck (.t 12))), (.op (some 14) none (.fad 2 (.t 13))), (.op (some 15) none (.ld (.t 14))), (.op (some 16) none (.mv (.t 1))), (.op (some 17) none (.callv
  (.t 11) [(.t 15), (.t 16)]))]) .ret) .skip)) (.seq (.reg [(.op (some 18) none (.mv (.t 0))), (.op (some 19) none (.nck (.t 18))), (.op (some 20) none (.fad 3 (.t 19))),
  (.op (some 21) none (.ld (.t 20))), (.op (some 22) none (.mv (.t 1))), (.op (some 23) none (.bin .add (.t 22) (.c (.int .i64 1)))), (.op (some 24) none (.mv (.t 2))),
  (.op (some 25) none (.call 89 [(.t 21), (.t 23), (.t 24)]))]) (.reg [(.op (some 26) none (.mv (.t 0))), (.op (some 27) none (.nck (.t 26))), (.op (some 28) none (.fad 4
  (.t 27))), (.op (some 29) none (.ld (.t 28))), (.op (some 30) none (.mv (.t 1))), (.op (some 31) none (.bin .add (.t 30) (.c (.int .i64 1)))), (.op (some 32) none (.mv (.t 2))),
  (.op (some 33) none (.call 89 [(.t 29), (.t 31), (.t 32)]))]))), []⟩
def k90 : KFunc := ⟨13, (.seq (.reg [(.op (some 6) none (.ld (.t 2))), (.op (some 7) none (.mv (.t 0))), (.op (some 8) none (.mv (.t 1))), (.op (some 9) none (.iad 1 (.t 6)
  (.t 7))), (.op none none (.st (.t 9) (.t 8)))]) (.reg [(.op (some 10) none (.ld (.t 3))), (.op (some 11) none (.mv (.t 1))), (.op (some 12) none (.mx (.t 10) [(.t 11)])),
  (.op none none (.st (.t 3) (.t 12)))])), []⟩
def k91 : KFunc := ⟨62, (.seq (.reg [(.op (some 1) none (.box 38 (.t 0))), (.op (some 2) none (.mv (.c (.slice none 0 0))))]) (.seq (.reg [(.op (some 11) none (.ld (.t 1))),
  (.op (some 12) none (.lenL (.t 11))), (.op (some 13) none (.mks 3 [(.int .i64 0)] 8 (.t 12) (.t 12))), (.op (some 3) none (.mv (.t 13)))]) (.seq (.reg [(.op (some 4) none (.mv
  (.c (.slice none 0 0))))]) (.seq (.seq (.reg [(.op (some 14) none (.ld (.t 1))), (.op (some 15) none (.lenL (.t 14))), (.op (some 16) none (.mv (.c (.int .i64 0))))]) (.block 0
  (.loop (.seq (.reg [(.op (some 17) none (.bin .lss (.t 16) (.t 15)))]) (.seq (.cond (.t 17) .skip (.exit 0)) (.seq (.block 1 (.seq (.reg [(.op (some 18) none (.mv (.t 16))),
  (.op (some 19) none (.iad 1 (.t 14) (.t 16))), (.op (some 20) none (.ld (.t 19))), (.op (some 5) none (.mv (.t 18))), (.op (some 6) none (.mv (.t 20)))]) (.seq
  (.reg [(.op (some 21) none (.mv (.t 6))), (.op (some 22) none (.bin .gtr (.t 21) (.c (.int .i64 0))))]) (.cond (.t 22) (.reg [(.op (some 23) none (.mv (.t 4))),
  (.op (some 24) none (.mv (.t 5))), (.op (some 25) none (.bsl 3 1 [(.int .i64 0)] [(0, (1, (.t 24)))])), (.op (some 26) none (.app 3 1 8 (.t 23) (.t 25))), (.op (some 4) none
  (.mv (.t 26)))]) .skip)))) (.reg [(.op (some 27) none (.bin .add (.t 16) (.c (.int .i64 1)))), (.op (some 16) none (.mv (.t 27)))]))))))) (.seq (.reg [(.op (some 28) none (.mv
  (.t 4))), (.op (some 29) none (.lenL (.t 28))), (.op (some 30) none (.bin .sub (.t 29) (.c (.int .i64 1)))), (.op (some 31) none (.cvt .u32 (.t 30))), (.op (some 32) none
  (.call 121 [(.t 31)])), (.op (some 7) none (.mv (.t 32)))]) (.seq (.reg [(.op (some 33) none (.mv (.t 4))), (.op (some 34) none (.mkf (.func 123) [] [(.t 1)])),
  (.op (some 35) none (.call 122 [(.t 33), (.t 34)]))]) (.seq (.reg [(.op (some 36) none (.mv (.t 7))), (.op (some 37) none (.bin .shl (.c (.int .i64 1)) (.t 36))),
  (.op (some 38) none (.mv (.t 4))), (.op (some 39) none (.lenL (.t 38))), (.op (some 40) none (.bin .sub (.t 37) (.t 39))), (.op (some 8) none (.mv (.t 40)))]) (.seq (.seq
  (.reg [(.op (some 41) none (.mv (.t 4))), (.op (some 42) none (.lenL (.t 41))), (.op (some 43) none (.mv (.c (.int .i64 0))))]) (.block 2 (.loop (.seq (.reg [(.op (some 44) none
  (.bin .lss (.t 43) (.t 42)))]) (.seq (.cond (.t 44) .skip (.exit 2)) (.seq (.block 3 (.seq (.reg [(.op (some 45) none (.mv (.t 43))), (.op (some 46) none (.iad 1 (.t 41)
  (.t 43))), (.op (some 47) none (.ld (.t 46))), (.op (some 9) none (.mv (.t 45))), (.op (some 10) none (.mv (.t 47)))]) (.seq (.reg [(.op (some 48) none (.mv (.t 3))),
  (.op (some 49) none (.mv (.t 10))), (.op (some 50) none (.mv (.t 7))), (.op (some 51) none (.iad 1 (.t 48) (.t 49))), (.op none none (.st (.t 51) (.t 50)))]) (.seq
  (.reg [(.op (some 52) none (.mv (.t 9))), (.op (some 53) none (.mv (.t 8))), (.op (some 54) none (.bin .lss (.t 52) (.t 53)))]) (.cond (.t 54) (.reg [(.op (some 55) none (.mv
  (.t 3))), (.op (some 56) none (.mv (.t 10))), (.op (some 57) none (.mv (.t 7))), (.op (some 58) none (.bin .sub (.t 57) (.c (.int .i64 1)))), (.op (some 59) none (.iad 1 (.t 55)
  (.t 56))), (.op none none (.st (.t 59) (.t 58)))]) .skip))))) (.reg [(.op (some 60) none (.bin .add (.t 43) (.c (.int .i64 1)))), (.op (some 43) none (.mv (.t 60)))])))))))
  (.seq (.reg [(.op (some 61) none (.mv (.t 3))), (.op (some 2) none (.mv (.t 61)))]) .ret))))))))), [(.t 2)]⟩
def k92 : KFunc := ⟨21, (.seq (.reg [(.op (some 2) none (.mv (.c (.bool false))))]) (.seq (.seq (.reg [(.op (some 5) none (.mv (.t 0))), (.op (some 6) none (.lenL (.t 5))),
  (.op (some 7) none (.mv (.c (.int .i64 0))))]) (.block 0 (.loop (.seq (.reg [(.op (some 8) none (.bin .lss (.t 7) (.t 6)))]) (.seq (.cond (.t 8) .skip (.exit 0)) (.seq (.block 1
  (.seq (.reg [(.op (some 9) none (.iad 1 (.t 5) (.t 7))), (.op (some 10) none (.ld (.t 9))), (.op (some 4) none (.mv (.t 10)))]) (.seq (.reg [(.op (some 11) none (.mv (.t 4))),
  (.op (some 12) none (.bin .lss (.t 11) (.c (.int .i64 0)))), (.op (some 13) none (.mv (.t 12))), (.op (some 14) (some (13, false)) (.mv (.t 4))), (.op (some 15) (some (13,
  false)) (.bin .gtr (.t 14) (.c (.int .i64 11)))), (.op (some 16) none (.pick (.t 13) (.c (.bool true)) (.t 15)))]) (.cond (.t 16) (.seq (.reg [(.op (some 2) none (.mv (.c
  (.bool false))))]) .ret) .skip)))) (.reg [(.op (some 17) none (.bin .add (.t 7) (.c (.int .i64 1)))), (.op (some 7) none (.mv (.t 17)))]))))))) (.seq (.reg [(.op (some 18) none
  (.mv (.t 0))), (.op (some 19) none (.lenL (.t 18))), (.op (some 20) none (.bin .leq (.t 19) (.c (.int .i64 256)))), (.op (some 2) none (.mv (.t 20)))]) .ret))), [(.t 2)]⟩
def k93 : KFunc := ⟨11, (.seq (.reg [(.op (some 2) none (.mv (.c (.int .i64 0))))]) (.seq (.reg [(.op (some 3) none (.mv (.c (.int .i64 0))))]) (.seq (.block 0 (.loop (.seq (.seq
  (.reg [(.op (some 4) none (.mv (.t 0))), (.op (some 5) none (.bin .gtr (.t 4) (.c (.int .u32 0))))]) (.cond (.t 5) .skip (.exit 0))) (.block 1 (.seq (.reg [(.op (some 6) none
  (.mv (.t 0))), (.op (some 7) none (.bin .quo (.t 6) (.c (.int .u32 2)))), (.op (some 0) none (.mv (.t 7)))]) (.reg [(.op (some 8) none (.mv (.t 3))), (.op (some 9) none
  (.bin .add (.t 8) (.c (.int .i64 1)))), (.op (some 3) none (.mv (.t 9)))])))))) (.seq (.reg [(.op (some 10) none (.mv (.t 3))), (.op (some 2) none (.mv (.t 10)))]) .ret)))),
  [(.t 2)]⟩
def k99 : KFunc := ⟨28, (.seq (.reg [(.op (some 4) none (.mv (.c (.int .u64 0))))]) (.seq (.reg [(.op (some 5) none (.mv (.c (.int .u64 0))))]) (.seq (.seq
  (.reg [(.op (some 8) none (.mv (.t 0))), (.op (some 9) none (.mv (.t 1))), (.op (some 10) none (.call 105 [(.t 9)])), (.op (some 11) none (.call 102 [(.t 8), (.t 10)])),
  (.op (some 12) none (.s2b 5 (.t 11))), (.op (some 13) none (.lenL (.t 12))), (.op (some 14) none (.mv (.c (.int .i64 0))))]) (.block 0 (.loop (.seq (.reg [(.op (some 15) none
  (.bin .lss (.t 14) (.t 13)))]) (.seq (.cond (.t 15) .skip (.exit 0)) (.seq (.block 1 (.seq (.reg [(.op (some 16) none (.mv (.t 14))), (.op (some 17) none (.iad 1 (.t 12)
  (.t 14))), (.op (some 18) none (.ld (.t 17))), (.op (some 6) none (.mv (.t 16))), (.op (some 7) none (.mv (.t 18)))]) (.reg [(.op (some 19) none (.mv (.t 5))),
  (.op (some 20) none (.mv (.t 7))), (.op (some 21) none (.cvt .u64 (.t 20))), (.op (some 22) none (.mv (.t 6))), (.op (some 23) none (.bin .mul (.c (.int .i64 8)) (.t 22))),
  (.op (some 24) none (.bin .shl (.t 21) (.t 23))), (.op (some 25) none (.bin .or (.t 19) (.t 24))), (.op (some 5) none (.mv (.t 25)))]))) (.reg [(.op (some 26) none (.bin .add
  (.t 14) (.c (.int .i64 1)))), (.op (some 14) none (.mv (.t 26)))]))))))) (.seq (.reg [(.op (some 27) none (.mv (.t 5))), (.op (some 4) none (.mv (.t 27)))]) .ret)))), [(.t 4)]⟩
def k101 : KFunc := ⟨11, (.seq (.reg [(.op (some 2) none (.mv (.c (.bool false))))]) (.seq (.reg [(.op (some 3) none (.mv (.t 0))), (.op (some 4) none (.eqv .ptr false (.t 3) (.c
  (.pointer none)))), (.op (some 5) none (.mv (.t 4))), (.op (some 6) (some (5, false)) (.mv (.t 0))), (.op (some 7) (some (5, false)) (.nck (.t 6))), (.op (some 8) (some (5,
  false)) (.fad 1 (.t 7))), (.op (some 9) (some (5, false)) (.ld (.t 8))), (.op (some 10) none (.pick (.t 5) (.c (.bool true)) (.t 9))), (.op (some 2) none (.mv
  (.t 10)))]) .ret)), [(.t 2)]⟩
def k102 : KFunc := ⟨37, (.seq (.reg [(.op (some 4) none (.mv (.c (.string (bs [])))))]) (.seq (.reg [(.op (some 6) none (.mv (.t 1))), (.op (some 7) none (.mx (.t 6) [(.c
  (.int .i64 0))])), (.op (some 1) none (.mv (.t 7)))]) (.seq (.seq (.reg [(.op (some 8) none (.mv (.t 0))), (.op (some 9) none (.call 101 [(.t 8)])), (.op (some 10) none (.mv
  (.t 9))), (.op (some 11) (some (10, false)) (.mv (.t 0))), (.op (some 12) (some (10, false)) (.nck (.t 11))), (.op (some 13) (some (10, false)) (.fad 0 (.t 12))),
  (.op (some 14) (some (10, false)) (.ld (.t 13))), (.op (some 15) (some (10, false)) (.lenS (.t 14))), (.op (some 16) (some (10, false)) (.mv (.t 1))), (.op (some 17) (some (10,
  false)) (.bin .lss (.t 15) (.t 16))), (.op (some 18) none (.pick (.t 10) (.c (.bool true)) (.t 17)))]) (.cond (.t 18) (.seq (.reg [(.op (some 19) none (.mv (.t 0))),
  (.op (some 20) none (.call 126 [(.t 19)]))]) (.seq (.reg [(.op (some 4) none (.mv (.c (.string (bs [])))))]) .ret)) .skip)) (.seq (.reg [(.op (some 21) none (.mv (.t 0))),
  (.op (some 22) none (.nck (.t 21))), (.op (some 23) none (.fad 0 (.t 22))), (.op (some 24) none (.ld (.t 23))), (.op (some 25) none (.mv (.t 1))), (.op (some 26) none (.slS
  (.t 24) none (some (.t 25)))), (.op (some 5) none (.mv (.t 26)))]) (.seq (.reg [(.op (some 27) none (.mv (.t 0))), (.op (some 28) none (.mv (.t 0))), (.op (some 29) none (.nck
  (.t 28))), (.op (some 30) none (.fad 0 (.t 29))), (.op (some 31) none (.ld (.t 30))), (.op (some 32) none (.mv (.t 1))), (.op (some 33) none (.slS (.t 31) (some (.t 32)) none)),
  (.op (some 34) none (.nck (.t 27))), (.op (some 35) none (.fad 0 (.t 34))), (.op none none (.st (.t 35) (.t 33)))]) (.seq (.reg [(.op (some 36) none (.mv (.t 5))),
  (.op (some 4) none (.mv (.t 36)))]) .ret)))))), [(.t 4)]⟩
def k105 : KFunc := ⟨6, (.seq (.reg [(.op (some 2) none (.mv (.c (.int .i64 0))))]) (.seq (.reg [(.op (some 3) none (.mv (.t 0))), (.op (some 4) none (.mx (.t 3) [(.c
  (.int .i64 0))])), (.op (some 5) none (.mn (.t 4) [(.c (.int .i64 8))])), (.op (some 2) none (.mv (.t 5)))]) .ret)), [(.t 2)]⟩
def k108 : KFunc := ⟨79, (.seq (.reg [(.op (some 2) none (.mv (.c (.slice none 0 0))))]) (.seq (.reg [(.op (some 7) none (.mv (.t 0))), (.op (some 8) none (.lenL (.t 7))),
  (.op (some 9) none (.mks 3 [(.int .i64 0)] 8 (.t 8) (.t 8))), (.op (some 3) none (.mv (.t 9)))]) (.seq (.seq (.reg [(.op (some 4) none (.mv (.c (.int .i64 0))))]) (.block 0
  (.loop (.seq (.seq (.reg [(.op (some 10) none (.mv (.t 4))), (.op (some 11) none (.mv (.t 0))), (.op (some 12) none (.lenL (.t 11))), (.op (some 13) none (.bin .lss (.t 10)
  (.t 12)))]) (.cond (.t 13) .skip (.exit 0))) (.seq (.block 1 (.seq (.seq (.reg [(.op (some 16) none (.mv (.t 0))), (.op (some 17) none (.mv (.t 4))), (.op (some 18) none (.iad 1
  (.t 16) (.t 17))), (.op (some 19) none (.ld (.t 18))), (.op (some 20) none (.bin .eql (.t 19) (.c (.int .i64 0))))]) (.cond (.t 20) (.exit 1) .skip)) (.seq
  (.reg [(.op (some 5) none (.mv (.c (.int .i64 0))))]) (.seq (.seq (.reg [(.op (some 6) none (.mv (.c (.int .i64 0))))]) (.block 2 (.loop (.seq (.seq (.reg [(.op (some 21) none
  (.mv (.t 6))), (.op (some 22) none (.mv (.t 0))), (.op (some 23) none (.lenL (.t 22))), (.op (some 24) none (.bin .lss (.t 21) (.t 23)))]) (.cond (.t 24) .skip (.exit 2))) (.seq
  (.block 3 (.seq (.reg [(.op (some 27) none (.mv (.t 0))), (.op (some 28) none (.mv (.t 6))), (.op (some 29) none (.iad 1 (.t 27) (.t 28))), (.op (some 30) none (.ld (.t 29))),
  (.op (some 31) none (.bin .gtr (.t 30) (.c (.int .i64 0)))), (.op (some 32) none (.mv (.t 31))), (.op (some 33) (some (32, true)) (.mv (.t 0))), (.op (some 34) (some (32, true))
  (.mv (.t 6))), (.op (some 35) (some (32, true)) (.iad 1 (.t 33) (.t 34))), (.op (some 36) (some (32, true)) (.ld (.t 35))), (.op (some 37) (some (32, true)) (.mv (.t 0))),
  (.op (some 38) (some (32, true)) (.mv (.t 4))), (.op (some 39) (some (32, true)) (.iad 1 (.t 37) (.t 38))), (.op (some 40) (some (32, true)) (.ld (.t 39))),
  (.op (some 41) (some (32, true)) (.bin .lss (.t 36) (.t 40))), (.op (some 42) (some (32, true)) (.mv (.t 41))), (.op (some 43) (some (42, false)) (.mv (.t 0))),
  (.op (some 44) (some (42, false)) (.mv (.t 6))), (.op (some 45) (some (42, false)) (.iad 1 (.t 43) (.t 44))), (.op (some 46) (some (42, false)) (.ld (.t 45))),
  (.op (some 47) (some (42, false)) (.mv (.t 0))), (.op (some 48) (some (42, false)) (.mv (.t 4))), (.op (some 49) (some (42, false)) (.iad 1 (.t 47) (.t 48))),
  (.op (some 50) (some (42, false)) (.ld (.t 49))), (.op (some 51) (some (42, false)) (.bin .eql (.t 46) (.t 50))), (.op (some 52) (some (42, false)) (.mv (.t 51))),
  (.op (some 53) (some (52, true)) (.mv (.t 6))), (.op (some 54) (some (52, true)) (.mv (.t 4))), (.op (some 55) (some (52, true)) (.bin .lss (.t 53) (.t 54))),
  (.op (some 56) (some (42, false)) (.pick (.t 52) (.t 55) (.c (.bool false)))), (.op (some 57) (some (32, true)) (.pick (.t 42) (.c (.bool true)) (.t 56))), (.op (some 58) none
  (.pick (.t 32) (.t 57) (.c (.bool false))))]) (.cond (.t 58) (.reg [(.op (some 59) none (.mv (.t 5))), (.op (some 60) none (.mv (.t 0))), (.op (some 61) none (.mv (.t 6))),
  (.op (some 62) none (.iad 1 (.t 60) (.t 61))), (.op (some 63) none (.ld (.t 62))), (.op (some 64) none (.bin .sub (.c (.int .i64 11)) (.t 63))), (.op (some 65) none
  (.call 60 [(.t 64)])), (.op (some 66) none (.bin .add (.t 59) (.t 65))), (.op (some 5) none (.mv (.t 66)))]) .skip))) (.reg [(.op (some 25) none (.mv (.t 6))),
  (.op (some 26) none (.bin .add (.t 25) (.c (.int .i64 1)))), (.op (some 6) none (.mv (.t 26)))])))))) (.reg [(.op (some 67) none (.mv (.t 3))), (.op (some 68) none (.mv
  (.t 4))), (.op (some 69) none (.mv (.t 5))), (.op (some 70) none (.mv (.t 0))), (.op (some 71) none (.mv (.t 4))), (.op (some 72) none (.iad 1 (.t 70) (.t 71))),
  (.op (some 73) none (.ld (.t 72))), (.op (some 74) none (.bin .sub (.c (.int .i64 11)) (.t 73))), (.op (some 75) none (.call 60 [(.t 74)])), (.op (some 76) none (.bin .quo
  (.t 69) (.t 75))), (.op (some 77) none (.iad 1 (.t 67) (.t 68))), (.op none none (.st (.t 77) (.t 76)))]))))) (.reg [(.op (some 14) none (.mv (.t 4))), (.op (some 15) none
  (.bin .add (.t 14) (.c (.int .i64 1)))), (.op (some 4) none (.mv (.t 15)))])))))) (.seq (.reg [(.op (some 78) none (.mv (.t 3))), (.op (some 2) none (.mv (.t 78)))]) .ret)))),
  [(.t 2)]⟩
def k111 : KFunc := ⟨17, (.seq (.reg [(.op (some 4) none (.mv (.t 0))), (.op (some 5) none (.inv (.t 4) "Len" [])), (.op (some 2) none (.mv (.t 5)))]) (.seq
  (.reg [(.op (some 6) none (.mv (.t 2))), (.op (some 7) none (.bin .quo (.t 6) (.c (.int .i64 2)))), (.op (some 8) none (.bin .sub (.t 7) (.c (.int .i64 1)))), (.op (some 3) none
  (.mv (.t 8)))]) (.block 0 (.loop (.seq (.seq (.reg [(.op (some 9) none (.mv (.t 3))), (.op (some 10) none (.bin .geq (.t 9) (.c (.int .i64 0))))]) (.cond (.t 10) .skip
  (.exit 0))) (.seq (.block 1 (.reg [(.op (some 13) none (.mv (.t 0))), (.op (some 14) none (.mv (.t 3))), (.op (some 15) none (.mv (.t 2))), (.op (some 16) none
  (.call 131 [(.t 13), (.t 14), (.t 15)]))])) (.reg [(.op (some 11) none (.mv (.t 3))), (.op (some 12) none (.bin .sub (.t 11) (.c (.int .i64 1)))), (.op (some 3) none (.mv
  (.t 12)))]))))))), []⟩
def k113 : KFunc := ⟨15, (.seq (.reg [(.op (some 2) none (.mv (.c .nilIface)))]) (.seq (.reg [(.op (some 4) none (.mv (.t 0))), (.op (some 5) none (.inv (.t 4) "Len" [])),
  (.op (some 6) none (.bin .sub (.t 5) (.c (.int .i64 1)))), (.op (some 3) none (.mv (.t 6)))]) (.seq (.reg [(.op (some 7) none (.mv (.t 0))), (.op (some 8) none (.mv (.t 3))),
  (.op (some 9) none (.inv (.t 7) "Swap" [(.c (.int .i64 0)), (.t 8)]))]) (.seq (.reg [(.op (some 10) none (.mv (.t 0))), (.op (some 11) none (.mv (.t 3))), (.op (some 12) none
  (.call 131 [(.t 10), (.c (.int .i64 0)), (.t 11)]))]) (.seq (.reg [(.op (some 13) none (.mv (.t 0))), (.op (some 14) none (.inv (.t 13) "Pop" [])), (.op (some 2) none (.mv
  (.t 14)))]) .ret))))), [(.t 2)]⟩
def k114 : KFunc := ⟨12, (.seq (.reg [(.op (some 4) none (.mv (.t 0))), (.op (some 5) none (.mv (.t 1))), (.op (some 6) none (.inv (.t 4) "Push" [(.t 5)]))])
  (.reg [(.op (some 7) none (.mv (.t 0))), (.op (some 8) none (.mv (.t 0))), (.op (some 9) none (.inv (.t 8) "Len" [])), (.op (some 10) none (.bin .sub (.t 9) (.c
  (.int .i64 1)))), (.op (some 11) none (.call 132 [(.t 7), (.t 10)]))])), []⟩
def k118 : KFunc := ⟨17, (.seq (.reg [(.op (some 2) none (.mv (.c (.int .i64 0))))]) (.seq (.reg [(.op (some 3) none (.mv (.c (.int .i64 0))))]) (.seq (.seq
  (.reg [(.op (some 6) none (.mv (.t 0))), (.op (some 7) none (.lenL (.t 6))), (.op (some 8) none (.mv (.c (.int .i64 0))))]) (.block 0 (.loop (.seq (.reg [(.op (some 9) none
  (.bin .lss (.t 8) (.t 7)))]) (.seq (.cond (.t 9) .skip (.exit 0)) (.seq (.block 1 (.seq (.reg [(.op (some 10) none (.iad 1 (.t 6) (.t 8))), (.op (some 11) none (.ld (.t 10))),
  (.op (some 5) none (.mv (.t 11)))]) (.reg [(.op (some 12) none (.mv (.t 3))), (.op (some 13) none (.mv (.t 5))), (.op (some 14) none (.bin .add (.t 12) (.t 13))),
  (.op (some 3) none (.mv (.t 14)))]))) (.reg [(.op (some 15) none (.bin .add (.t 8) (.c (.int .i64 1)))), (.op (some 8) none (.mv (.t 15)))]))))))) (.seq
  (.reg [(.op (some 16) none (.mv (.t 3))), (.op (some 2) none (.mv (.t 16)))]) .ret)))), [(.t 2)]⟩
def k119 : KFunc := ⟨5, (.seq (.reg [(.op (some 2) none (.mv (.c (.int .i64 0))))]) (.seq (.reg [(.op (some 3) none (.mv (.t 0))), (.op (some 4) none (.lenL (.t 3))),
  (.op (some 2) none (.mv (.t 4)))]) .ret)), [(.t 2)]⟩
def k120 : KFunc := ⟨13, (.seq (.reg [(.op (some 2) none (.mv (.c (.pointer none))))]) (.seq (.reg [(.op (some 6) none (.mv (.t 0))), (.op (some 7) none (.mki 157 (.t 6))),
  (.op (some 8) none (.call 113 [(.t 7)])), (.op (some 9) none (.tas 120 (.pointer none) true (.t 8))), (.op (some 5) none (.mv (.t 9))), (.op (some 10) none (.xt (.t 5) 0)),
  (.op (some 11) none (.xt (.t 5) 1)), (.op (some 3) none (.mv (.t 10))), (.op (some 4) none (.mv (.t 11)))]) (.seq (.reg [(.op (some 12) none (.mv (.t 3))), (.op (some 2) none
  (.mv (.t 12)))]) .ret))), [(.t 2)]⟩
def k121 : KFunc := ⟨5, (.seq (.reg [(.op (some 2) none (.mv (.c (.int .i64 0))))]) (.seq (.reg [(.op (some 3) none (.mv (.t 0))), (.op (some 4) none (.call 135 [(.t 3)])),
  (.op (some 2) none (.mv (.t 4)))]) .ret)), [(.t 2)]⟩
def k122 : KFunc := ⟨9, (.reg [(.op (some 4) none (.mv (.t 0))), (.op (some 5) none (.mv (.t 0))), (.op (some 6) none (.lenL (.t 5))), (.op (some 7) none (.mv (.t 1))),
  (.op (some 8) none (.call 136 [(.t 4), (.t 6), (.t 7)]))]), []⟩
def k123 : KFunc := ⟨15, (.seq (.reg [(.op (some 5) none (.mv (.c (.int .i64 0))))]) (.seq (.reg [(.op (some 6) none (.ld (.t 2))), (.op (some 7) none (.mv (.t 1))),
  (.op (some 8) none (.iad 1 (.t 6) (.t 7))), (.op (some 9) none (.ld (.t 8))), (.op (some 10) none (.ld (.t 2))), (.op (some 11) none (.mv (.t 0))), (.op (some 12) none (.iad 1
  (.t 10) (.t 11))), (.op (some 13) none (.ld (.t 12))), (.op (some 14) none (.call 124 [(.t 9), (.t 13)])), (.op (some 5) none (.mv (.t 14)))]) .ret)), [(.t 5)]⟩
def k124 : KFunc := ⟨20, (.seq (.reg [(.op (some 4) none (.mv (.c (.int .i64 0))))]) (.seq (.reg [(.op (some 7) none (.mv (.t 0))), (.op (some 8) none (.call 137 [(.t 7)])),
  (.op (some 5) none (.mv (.t 8)))]) (.seq (.reg [(.op (some 9) none (.mv (.t 1))), (.op (some 10) none (.call 137 [(.t 9)])), (.op (some 6) none (.mv (.t 10)))]) (.seq (.seq
  (.reg [(.op (some 11) none (.mv (.t 5)))]) (.cond (.t 11) (.seq (.seq (.reg [(.op (some 12) none (.mv (.t 6)))]) (.cond (.t 12) (.seq (.reg [(.op (some 4) none (.mv (.c
  (.int .i64 0))))]) .ret) .skip)) (.seq (.reg [(.op (some 4) none (.mv (.c (.int .i64 (-1)))))]) .ret)) .skip)) (.seq (.seq (.reg [(.op (some 13) none (.mv (.t 6)))]) (.cond
  (.t 13) (.seq (.reg [(.op (some 4) none (.mv (.c (.int .i64 1))))]) .ret) .skip)) (.seq (.seq (.reg [(.op (some 14) none (.mv (.t 0))), (.op (some 15) none (.mv (.t 1))),
  (.op (some 16) none (.bin .lss (.t 14) (.t 15)))]) (.cond (.t 16) (.seq (.reg [(.op (some 4) none (.mv (.c (.int .i64 (-1)))))]) .ret) .skip)) (.seq (.seq
  (.reg [(.op (some 17) none (.mv (.t 0))), (.op (some 18) none (.mv (.t 1))), (.op (some 19) none (.bin .gtr (.t 17) (.t 18)))]) (.cond (.t 19) (.seq (.reg [(.op (some 4) none
  (.mv (.c (.int .i64 1))))]) .ret) .skip)) (.seq (.reg [(.op (some 4) none (.mv (.c (.int .i64 0))))]) .ret)))))))), [(.t 4)]⟩
def k126 : KFunc := ⟨10, (.seq (.reg [(.op (some 2) none (.mv (.t 0))), (.op (some 3) none (.eqv .ptr true (.t 2) (.c (.pointer none))))]) (.cond (.t 3) (.reg [(.op (some 4) none
  (.mv (.t 0))), (.op (some 5) none (.mv (.t 0))), (.op (some 6) none (.nck (.t 4))), (.op (some 7) none (.fad 0 (.t 6))), (.op none none (.st (.t 7) (.c (.string (bs []))))),
  (.op (some 8) none (.nck (.t 5))), (.op (some 9) none (.fad 1 (.t 8))), (.op none none (.st (.t 9) (.c (.bool true))))]) .skip)), []⟩
def k131 : KFunc := ⟨48, (.seq (.reg [(.op (some 6) none (.mv (.c (.bool false))))]) (.seq (.reg [(.op (some 11) none (.mv (.t 1))), (.op (some 7) none (.mv (.t 11)))]) (.seq
  (.block 0 (.loop (.block 1 (.seq (.reg [(.op (some 12) none (.mv (.t 7))), (.op (some 13) none (.bin .mul (.c (.int .i64 2)) (.t 12))), (.op (some 14) none (.bin .add (.t 13)
  (.c (.int .i64 1)))), (.op (some 8) none (.mv (.t 14)))]) (.seq (.seq (.reg [(.op (some 15) none (.mv (.t 8))), (.op (some 16) none (.mv (.t 2))), (.op (some 17) none (.bin .geq
  (.t 15) (.t 16))), (.op (some 18) none (.mv (.t 17))), (.op (some 19) (some (18, false)) (.mv (.t 8))), (.op (some 20) (some (18, false)) (.bin .lss (.t 19) (.c
  (.int .i64 0)))), (.op (some 21) none (.pick (.t 18) (.c (.bool true)) (.t 20)))]) (.cond (.t 21) (.exit 0) .skip)) (.seq (.reg [(.op (some 22) none (.mv (.t 8))),
  (.op (some 9) none (.mv (.t 22)))]) (.seq (.seq (.reg [(.op (some 23) none (.mv (.t 8))), (.op (some 24) none (.bin .add (.t 23) (.c (.int .i64 1)))), (.op (some 10) none (.mv
  (.t 24)))]) (.seq (.reg [(.op (some 25) none (.mv (.t 10))), (.op (some 26) none (.mv (.t 2))), (.op (some 27) none (.bin .lss (.t 25) (.t 26))), (.op (some 28) none (.mv
  (.t 27))), (.op (some 29) (some (28, true)) (.mv (.t 0))), (.op (some 30) (some (28, true)) (.mv (.t 10))), (.op (some 31) (some (28, true)) (.mv (.t 8))),
  (.op (some 32) (some (28, true)) (.inv (.t 29) "Less" [(.t 30), (.t 31)])), (.op (some 33) none (.pick (.t 28) (.t 32) (.c (.bool false))))]) (.cond (.t 33)
  (.reg [(.op (some 34) none (.mv (.t 10))), (.op (some 9) none (.mv (.t 34)))]) .skip))) (.seq (.seq (.reg [(.op (some 35) none (.mv (.t 0))), (.op (some 36) none (.mv (.t 9))),
  (.op (some 37) none (.mv (.t 7))), (.op (some 38) none (.inv (.t 35) "Less" [(.t 36), (.t 37)])), (.op (some 39) none (.un .not (.t 38)))]) (.cond (.t 39) (.exit 0) .skip))
  (.seq (.reg [(.op (some 40) none (.mv (.t 0))), (.op (some 41) none (.mv (.t 7))), (.op (some 42) none (.mv (.t 9))), (.op (some 43) none (.inv (.t 40) "Swap" [(.t 41),
  (.t 42)]))]) (.reg [(.op (some 44) none (.mv (.t 9))), (.op (some 7) none (.mv (.t 44)))])))))))))) (.seq (.reg [(.op (some 45) none (.mv (.t 7))), (.op (some 46) none (.mv
  (.t 1))), (.op (some 47) none (.bin .gtr (.t 45) (.t 46))), (.op (some 6) none (.mv (.t 47)))]) .ret)))), [(.t 6)]⟩
def k132 : KFunc := ⟨23, (.block 0 (.loop (.block 1 (.seq (.reg [(.op (some 5) none (.mv (.t 1))), (.op (some 6) none (.bin .sub (.t 5) (.c (.int .i64 1)))), (.op (some 7) none
  (.bin .quo (.t 6) (.c (.int .i64 2)))), (.op (some 4) none (.mv (.t 7)))]) (.seq (.seq (.reg [(.op (some 8) none (.mv (.t 4))), (.op (some 9) none (.mv (.t 1))),
  (.op (some 10) none (.bin .eql (.t 8) (.t 9))), (.op (some 11) none (.mv (.t 10))), (.op (some 12) (some (11, false)) (.mv (.t 0))), (.op (some 13) (some (11, false)) (.mv
  (.t 1))), (.op (some 14) (some (11, false)) (.mv (.t 4))), (.op (some 15) (some (11, false)) (.inv (.t 12) "Less" [(.t 13), (.t 14)])), (.op (some 16) (some (11, false))
  (.un .not (.t 15))), (.op (some 17) none (.pick (.t 11) (.c (.bool true)) (.t 16)))]) (.cond (.t 17) (.exit 0) .skip)) (.seq (.reg [(.op (some 18) none (.mv (.t 0))),
  (.op (some 19) none (.mv (.t 4))), (.op (some 20) none (.mv (.t 1))), (.op (some 21) none (.inv (.t 18) "Swap" [(.t 19), (.t 20)]))]) (.reg [(.op (some 22) none (.mv (.t 4))),
  (.op (some 1) none (.mv (.t 22)))]))))))), []⟩
def k135 : KFunc := ⟨19, (.seq (.reg [(.op (some 2) none (.mv (.c (.int .i64 0))))]) (.seq (.seq (.reg [(.op (some 3) none (.mv (.t 0))), (.op (some 4) none (.bin .geq (.t 3) (.c
  (.int .u32 65536))))]) (.cond (.t 4) (.seq (.reg [(.op (some 5) none (.mv (.t 0))), (.op (some 6) none (.bin .shr (.t 5) (.c (.int .u64 16)))), (.op (some 0) none (.mv
  (.t 6)))]) (.reg [(.op (some 2) none (.mv (.c (.int .i64 16))))])) .skip)) (.seq (.seq (.reg [(.op (some 7) none (.mv (.t 0))), (.op (some 8) none (.bin .geq (.t 7) (.c
  (.int .u32 256))))]) (.cond (.t 8) (.seq (.reg [(.op (some 9) none (.mv (.t 0))), (.op (some 10) none (.bin .shr (.t 9) (.c (.int .u64 8)))), (.op (some 0) none (.mv (.t 10)))])
  (.reg [(.op (some 11) none (.mv (.t 2))), (.op (some 12) none (.bin .add (.t 11) (.c (.int .i64 8)))), (.op (some 2) none (.mv (.t 12)))])) .skip)) (.seq
  (.reg [(.op (some 13) none (.mv (.t 2))), (.op (some 14) none (.mv (.t 0))), (.op (some 15) none (.cvt .u8 (.t 14))), (.op (some 16) none (.idS (.c (.string (bs [0, 1, 2, 2, 3,
  3, 3, 3, 4, 4, 4, 4, 4, 4, 4, 4, 5, 5, 5, 5, 5, 5, 5, 5, 5, 5, 5, 5, 5, 5, 5, 5, 6, 6, 6, 6, 6, 6, 6, 6, 6, 6, 6, 6, 6, 6, 6, 6, 6, 6, 6, 6, 6, 6, 6, 6, 6, 6, 6, 6, 6, 6, 6, 6,
  7, 7, 7, 7, 7, 7, 7, 7, 7, 7, 7, 7, 7, 7, 7, 7, 7, 7, 7, 7, 7, 7, 7, 7, 7, 7, 7, 7, 7, 7, 7, 7, 7, 7, 7, 7, 7, 7, 7, 7, 7, 7, 7, 7, 7, 7, 7, 7, 7, 7, 7, 7, 7, 7, 7, 7, 7, 7, 7,
  7, 7, 7, 7, 7, 8, 8, 8, 8, 8, 8, 8, 8, 8, 8, 8, 8, 8, 8, 8, 8, 8, 8, 8, 8, 8, 8, 8, 8, 8, 8, 8, 8, 8, 8, 8, 8, 8, 8, 8, 8, 8, 8, 8, 8, 8, 8, 8, 8, 8, 8, 8, 8, 8, 8, 8, 8, 8, 8,
  8, 8, 8, 8, 8, 8, 8, 8, 8, 8, 8, 8, 8, 8, 8, 8, 8, 8, 8, 8, 8, 8, 8, 8, 8, 8, 8, 8, 8, 8, 8, 8, 8, 8, 8, 8, 8, 8, 8, 8, 8, 8, 8, 8, 8, 8, 8, 8, 8, 8, 8, 8, 8, 8, 8, 8, 8, 8, 8,
  8, 8, 8, 8, 8, 8, 8, 8, 8, 8, 8, 8, 8, 8, 8]))) (.t 15))), (.op (some 17) none (.cvt .i64 (.t 16))), (.op (some 18) none (.bin .add (.t 13) (.t 17))), (.op (some 2) none (.mv
  (.t 18)))]) .ret)))), [(.t 2)]⟩
def k136 : KFunc := ⟨63, (.seq (.reg [(.op (some 6) none (.mv (.c (.int .i64 20))))]) (.seq (.reg [(.op (some 10) none (.mv (.t 6))), (.op (some 7) none (.mv (.c (.int .i64 0)))),
  (.op (some 8) none (.mv (.t 10)))]) (.seq (.block 0 (.loop (.seq (.seq (.reg [(.op (some 11) none (.mv (.t 8))), (.op (some 12) none (.mv (.t 1))), (.op (some 13) none
  (.bin .leq (.t 11) (.t 12)))]) (.cond (.t 13) .skip (.exit 0))) (.block 1 (.seq (.reg [(.op (some 14) none (.mv (.t 0))), (.op (some 15) none (.mv (.t 7))), (.op (some 16) none
  (.mv (.t 8))), (.op (some 17) none (.mv (.t 2))), (.op (some 18) none (.call 143 [(.t 14), (.t 15), (.t 16), (.t 17)]))]) (.seq (.reg [(.op (some 19) none (.mv (.t 8))),
  (.op (some 7) none (.mv (.t 19)))]) (.reg [(.op (some 20) none (.mv (.t 8))), (.op (some 21) none (.mv (.t 6))), (.op (some 22) none (.bin .add (.t 20) (.t 21))),
  (.op (some 8) none (.mv (.t 22)))]))))))) (.seq (.reg [(.op (some 23) none (.mv (.t 0))), (.op (some 24) none (.mv (.t 7))), (.op (some 25) none (.mv (.t 1))),
  (.op (some 26) none (.mv (.t 2))), (.op (some 27) none (.call 143 [(.t 23), (.t 24), (.t 25), (.t 26)]))]) (.block 2 (.loop (.seq (.seq (.reg [(.op (some 28) none (.mv (.t 6))),
  (.op (some 29) none (.mv (.t 1))), (.op (some 30) none (.bin .lss (.t 28) (.t 29)))]) (.cond (.t 30) .skip (.exit 2))) (.block 3 (.seq (.reg [(.op (some 31) none (.mv (.t 6))),
  (.op (some 32) none (.bin .mul (.c (.int .i64 2)) (.t 31))), (.op (some 7) none (.mv (.c (.int .i64 0)))), (.op (some 8) none (.mv (.t 32)))]) (.seq (.block 4 (.loop (.seq (.seq
  (.reg [(.op (some 33) none (.mv (.t 8))), (.op (some 34) none (.mv (.t 1))), (.op (some 35) none (.bin .leq (.t 33) (.t 34)))]) (.cond (.t 35) .skip (.exit 4))) (.block 5 (.seq
  (.reg [(.op (some 36) none (.mv (.t 0))), (.op (some 37) none (.mv (.t 7))), (.op (some 38) none (.mv (.t 7))), (.op (some 39) none (.mv (.t 6))), (.op (some 40) none (.bin .add
  (.t 38) (.t 39))), (.op (some 41) none (.mv (.t 8))), (.op (some 42) none (.mv (.t 2))), (.op (some 43) none (.call 144 [(.t 36), (.t 37), (.t 40), (.t 41), (.t 42)]))]) (.seq
  (.reg [(.op (some 44) none (.mv (.t 8))), (.op (some 7) none (.mv (.t 44)))]) (.reg [(.op (some 45) none (.mv (.t 8))), (.op (some 46) none (.mv (.t 6))), (.op (some 47) none
  (.bin .mul (.c (.int .i64 2)) (.t 46))), (.op (some 48) none (.bin .add (.t 45) (.t 47))), (.op (some 8) none (.mv (.t 48)))]))))))) (.seq (.seq (.reg [(.op (some 49) none (.mv
  (.t 7))), (.op (some 50) none (.mv (.t 6))), (.op (some 51) none (.bin .add (.t 49) (.t 50))), (.op (some 9) none (.mv (.t 51)))]) (.seq (.reg [(.op (some 52) none (.mv
  (.t 9))), (.op (some 53) none (.mv (.t 1))), (.op (some 54) none (.bin .lss (.t 52) (.t 53)))]) (.cond (.t 54) (.reg [(.op (some 55) none (.mv (.t 0))), (.op (some 56) none (.mv
  (.t 7))), (.op (some 57) none (.mv (.t 9))), (.op (some 58) none (.mv (.t 1))), (.op (some 59) none (.mv (.t 2))), (.op (some 60) none (.call 144 [(.t 55), (.t 56), (.t 57),
  (.t 58), (.t 59)]))]) .skip))) (.reg [(.op (some 61) none (.mv (.t 6))), (.op (some 62) none (.bin .mul (.t 61) (.c (.int .i64 2)))), (.op (some 6) none (.mv
  (.t 62)))])))))))))))), []⟩
def k137 : KFunc := ⟨6, (.seq (.reg [(.op (some 2) none (.mv (.c (.bool false))))]) (.seq (.reg [(.op (some 3) none (.mv (.t 0))), (.op (some 4) none (.mv (.t 0))),
  (.op (some 5) none (.bin .neq (.t 3) (.t 4))), (.op (some 2) none (.mv (.t 5)))]) .ret)), [(.t 2)]⟩
def k143 : KFunc := ⟨53, (.seq (.reg [(.op (some 10) none (.mv (.t 1))), (.op (some 11) none (.bin .add (.t 10) (.c (.int .i64 1)))), (.op (some 8) none (.mv (.t 11)))]) (.block 0
  (.loop (.seq (.seq (.reg [(.op (some 12) none (.mv (.t 8))), (.op (some 13) none (.mv (.t 2))), (.op (some 14) none (.bin .lss (.t 12) (.t 13)))]) (.cond (.t 14) .skip
  (.exit 0))) (.seq (.block 1 (.seq (.reg [(.op (some 17) none (.mv (.t 8))), (.op (some 9) none (.mv (.t 17)))]) (.block 2 (.loop (.seq (.seq (.reg [(.op (some 18) none (.mv
  (.t 9))), (.op (some 19) none (.mv (.t 1))), (.op (some 20) none (.bin .gtr (.t 18) (.t 19))), (.op (some 21) none (.mv (.t 20))), (.op (some 22) (some (21, true)) (.mv
  (.t 3))), (.op (some 23) (some (21, true)) (.mv (.t 0))), (.op (some 24) (some (21, true)) (.mv (.t 9))), (.op (some 25) (some (21, true)) (.iad 1 (.t 23) (.t 24))),
  (.op (some 26) (some (21, true)) (.ld (.t 25))), (.op (some 27) (some (21, true)) (.mv (.t 0))), (.op (some 28) (some (21, true)) (.mv (.t 9))), (.op (some 29) (some (21, true))
  (.bin .sub (.t 28) (.c (.int .i64 1)))), (.op (some 30) (some (21, true)) (.iad 1 (.t 27) (.t 29))), (.op (some 31) (some (21, true)) (.ld (.t 30))), (.op (some 32) (some (21,
  true)) (.callv (.t 22) [(.t 26), (.t 31)])), (.op (some 33) (some (21, true)) (.bin .lss (.t 32) (.c (.int .i64 0)))), (.op (some 34) none (.pick (.t 21) (.t 33) (.c
  (.bool false))))]) (.cond (.t 34) .skip (.exit 2))) (.seq (.block 3 (.reg [(.op (some 37) none (.mv (.t 0))), (.op (some 38) none (.mv (.t 9))), (.op (some 39) none (.mv
  (.t 0))), (.op (some 40) none (.mv (.t 9))), (.op (some 41) none (.bin .sub (.t 40) (.c (.int .i64 1)))), (.op (some 42) none (.mv (.t 0))), (.op (some 43) none (.mv (.t 9))),
  (.op (some 44) none (.bin .sub (.t 43) (.c (.int .i64 1)))), (.op (some 45) none (.iad 1 (.t 42) (.t 44))), (.op (some 46) none (.ld (.t 45))), (.op (some 47) none (.mv
  (.t 0))), (.op (some 48) none (.mv (.t 9))), (.op (some 49) none (.iad 1 (.t 47) (.t 48))), (.op (some 50) none (.ld (.t 49))), (.op (some 51) none (.iad 1 (.t 37) (.t 38))),
  (.op none none (.st (.t 51) (.t 46))), (.op (some 52) none (.iad 1 (.t 39) (.t 41))), (.op none none (.st (.t 52) (.t 50)))])) (.reg [(.op (some 35) none (.mv (.t 9))),
  (.op (some 36) none (.bin .sub (.t 35) (.c (.int .i64 1)))), (.op (some 9) none (.mv (.t 36)))]))))))) (.reg [(.op (some 15) none (.mv (.t 8))), (.op (some 16) none (.bin .add
  (.t 15) (.c (.int .i64 1)))), (.op (some 8) none (.mv (.t 16)))])))))), []⟩
def k144 : KFunc := ⟨220, (.seq (.seq (.reg [(.op (some 25) none (.mv (.t 2))), (.op (some 26) none (.mv (.t 1))), (.op (some 27) none (.bin .sub (.t 25) (.t 26))),
  (.op (some 28) none (.bin .eql (.t 27) (.c (.int .i64 1))))]) (.cond (.t 28) (.seq (.reg [(.op (some 29) none (.mv (.t 2))), (.op (some 10) none (.mv (.t 29)))]) (.seq
  (.reg [(.op (some 30) none (.mv (.t 3))), (.op (some 11) none (.mv (.t 30)))]) (.seq (.block 0 (.loop (.seq (.seq (.reg [(.op (some 31) none (.mv (.t 10))), (.op (some 32) none
  (.mv (.t 11))), (.op (some 33) none (.bin .lss (.t 31) (.t 32)))]) (.cond (.t 33) .skip (.exit 0))) (.block 1 (.seq (.reg [(.op (some 34) none (.mv (.t 10))),
  (.op (some 35) none (.mv (.t 11))), (.op (some 36) none (.bin .add (.t 34) (.t 35))), (.op (some 37) none (.cvt .u64 (.t 36))), (.op (some 38) none (.bin .shr (.t 37) (.c
  (.int .u64 1)))), (.op (some 39) none (.cvt .i64 (.t 38))), (.op (some 12) none (.mv (.t 39)))]) (.seq (.reg [(.op (some 40) none (.mv (.t 4))), (.op (some 41) none (.mv
  (.t 0))), (.op (some 42) none (.mv (.t 12))), (.op (some 43) none (.iad 1 (.t 41) (.t 42))), (.op (some 44) none (.ld (.t 43))), (.op (some 45) none (.mv (.t 0))),
  (.op (some 46) none (.mv (.t 1))), (.op (some 47) none (.iad 1 (.t 45) (.t 46))), (.op (some 48) none (.ld (.t 47))), (.op (some 49) none (.callv (.t 40) [(.t 44), (.t 48)])),
  (.op (some 50) none (.bin .lss (.t 49) (.c (.int .i64 0))))]) (.cond (.t 50) (.reg [(.op (some 51) none (.mv (.t 12))), (.op (some 52) none (.bin .add (.t 51) (.c
  (.int .i64 1)))), (.op (some 10) none (.mv (.t 52)))]) (.reg [(.op (some 53) none (.mv (.t 12))), (.op (some 11) none (.mv (.t 53)))])))))))) (.seq (.seq
  (.reg [(.op (some 54) none (.mv (.t 1))), (.op (some 13) none (.mv (.t 54)))]) (.block 2 (.loop (.seq (.seq (.reg [(.op (some 55) none (.mv (.t 13))), (.op (some 56) none (.mv
  (.t 10))), (.op (some 57) none (.bin .sub (.t 56) (.c (.int .i64 1)))), (.op (some 58) none (.bin .lss (.t 55) (.t 57)))]) (.cond (.t 58) .skip (.exit 2))) (.seq (.block 3
  (.reg [(.op (some 61) none (.mv (.t 0))), (.op (some 62) none (.mv (.t 13))), (.op (some 63) none (.mv (.t 0))), (.op (some 64) none (.mv (.t 13))), (.op (some 65) none
  (.bin .add (.t 64) (.c (.int .i64 1)))), (.op (some 66) none (.mv (.t 0))), (.op (some 67) none (.mv (.t 13))), (.op (some 68) none (.bin .add (.t 67) (.c (.int .i64 1)))),
  (.op (some 69) none (.iad 1 (.t 66) (.t 68))), (.op (some 70) none (.ld (.t 69))), (.op (some 71) none (.mv (.t 0))), (.op (some 72) none (.mv (.t 13))), (.op (some 73) none
  (.iad 1 (.t 71) (.t 72))), (.op (some 74) none (.ld (.t 73))), (.op (some 75) none (.iad 1 (.t 61) (.t 62))), (.op none none (.st (.t 75) (.t 70))), (.op (some 76) none (.iad 1
  (.t 63) (.t 65))), (.op none none (.st (.t 76) (.t 74)))])) (.reg [(.op (some 59) none (.mv (.t 13))), (.op (some 60) none (.bin .add (.t 59) (.c (.int .i64 1)))),
  (.op (some 13) none (.mv (.t 60)))])))))) .ret)))) .skip)) (.seq (.seq (.reg [(.op (some 77) none (.mv (.t 3))), (.op (some 78) none (.mv (.t 2))), (.op (some 79) none
  (.bin .sub (.t 77) (.t 78))), (.op (some 80) none (.bin .eql (.t 79) (.c (.int .i64 1))))]) (.cond (.t 80) (.seq (.reg [(.op (some 81) none (.mv (.t 1))), (.op (some 14) none
  (.mv (.t 81)))]) (.seq (.reg [(.op (some 82) none (.mv (.t 2))), (.op (some 15) none (.mv (.t 82)))]) (.seq (.block 4 (.loop (.seq (.seq (.reg [(.op (some 83) none (.mv
  (.t 14))), (.op (some 84) none (.mv (.t 15))), (.op (some 85) none (.bin .lss (.t 83) (.t 84)))]) (.cond (.t 85) .skip (.exit 4))) (.block 5 (.seq (.reg [(.op (some 86) none
  (.mv (.t 14))), (.op (some 87) none (.mv (.t 15))), (.op (some 88) none (.bin .add (.t 86) (.t 87))), (.op (some 89) none (.cvt .u64 (.t 88))), (.op (some 90) none (.bin .shr
  (.t 89) (.c (.int .u64 1)))), (.op (some 91) none (.cvt .i64 (.t 90))), (.op (some 16) none (.mv (.t 91)))]) (.seq (.reg [(.op (some 92) none (.mv (.t 4))), (.op (some 93) none
  (.mv (.t 0))), (.op (some 94) none (.mv (.t 2))), (.op (some 95) none (.iad 1 (.t 93) (.t 94))), (.op (some 96) none (.ld (.t 95))), (.op (some 97) none (.mv (.t 0))),
  (.op (some 98) none (.mv (.t 16))), (.op (some 99) none (.iad 1 (.t 97) (.t 98))), (.op (some 100) none (.ld (.t 99))), (.op (some 101) none (.callv (.t 92) [(.t 96),
  (.t 100)])), (.op (some 102) none (.bin .lss (.t 101) (.c (.int .i64 0)))), (.op (some 103) none (.un .not (.t 102)))]) (.cond (.t 103) (.reg [(.op (some 104) none (.mv
  (.t 16))), (.op (some 105) none (.bin .add (.t 104) (.c (.int .i64 1)))), (.op (some 14) none (.mv (.t 105)))]) (.reg [(.op (some 106) none (.mv (.t 16))), (.op (some 15) none
  (.mv (.t 106)))])))))))) (.seq (.seq (.reg [(.op (some 107) none (.mv (.t 2))), (.op (some 17) none (.mv (.t 107)))]) (.block 6 (.loop (.seq (.seq (.reg [(.op (some 108) none
  (.mv (.t 17))), (.op (some 109) none (.mv (.t 14))), (.op (some 110) none (.bin .gtr (.t 108) (.t 109)))]) (.cond (.t 110) .skip (.exit 6))) (.seq (.block 7
  (.reg [(.op (some 113) none (.mv (.t 0))), (.op (some 114) none (.mv (.t 17))), (.op (some 115) none (.mv (.t 0))), (.op (some 116) none (.mv (.t 17))), (.op (some 117) none
  (.bin .sub (.t 116) (.c (.int .i64 1)))), (.op (some 118) none (.mv (.t 0))), (.op (some 119) none (.mv (.t 17))), (.op (some 120) none (.bin .sub (.t 119) (.c (.int .i64 1)))),
  (.op (some 121) none (.iad 1 (.t 118) (.t 120))), (.op (some 122) none (.ld (.t 121))), (.op (some 123) none (.mv (.t 0))), (.op (some 124) none (.mv (.t 17))),
  (.op (some 125) none (.iad 1 (.t 123) (.t 124))), (.op (some 126) none (.ld (.t 125))), (.op (some 127) none (.iad 1 (.t 113) (.t 114))), (.op none none (.st (.t 127)
  (.t 122))), (.op (some 128) none (.iad 1 (.t 115) (.t 117))), (.op none none (.st (.t 128) (.t 126)))])) (.reg [(.op (some 111) none (.mv (.t 17))), (.op (some 112) none
  (.bin .sub (.t 111) (.c (.int .i64 1)))), (.op (some 17) none (.mv (.t 112)))])))))) .ret)))) .skip)) (.seq (.reg [(.op (some 129) none (.mv (.t 1))), (.op (some 130) none (.mv
  (.t 3))), (.op (some 131) none (.bin .add (.t 129) (.t 130))), (.op (some 132) none (.cvt .u64 (.t 131))), (.op (some 133) none (.bin .shr (.t 132) (.c (.int .u64 1)))),
  (.op (some 134) none (.cvt .i64 (.t 133))), (.op (some 18) none (.mv (.t 134)))]) (.seq (.reg [(.op (some 135) none (.mv (.t 18))), (.op (some 136) none (.mv (.t 2))),
  (.op (some 137) none (.bin .add (.t 135) (.t 136))), (.op (some 19) none (.mv (.t 137)))]) (.seq (.reg [(.op (some 20) none (.mv (.c (.int .i64 0)))), (.op (some 21) none (.mv
  (.c (.int .i64 0))))]) (.seq (.seq (.reg [(.op (some 138) none (.mv (.t 2))), (.op (some 139) none (.mv (.t 18))), (.op (some 140) none (.bin .gtr (.t 138) (.t 139)))]) (.cond
  (.t 140) (.seq (.reg [(.op (some 141) none (.mv (.t 19))), (.op (some 142) none (.mv (.t 3))), (.op (some 143) none (.bin .sub (.t 141) (.t 142))), (.op (some 20) none (.mv
  (.t 143)))]) (.reg [(.op (some 144) none (.mv (.t 18))), (.op (some 21) none (.mv (.t 144)))])) (.seq (.reg [(.op (some 145) none (.mv (.t 1))), (.op (some 20) none (.mv
  (.t 145)))]) (.reg [(.op (some 146) none (.mv (.t 2))), (.op (some 21) none (.mv (.t 146)))])))) (.seq (.reg [(.op (some 147) none (.mv (.t 19))), (.op (some 148) none
  (.bin .sub (.t 147) (.c (.int .i64 1)))), (.op (some 22) none (.mv (.t 148)))]) (.seq (.block 8 (.loop (.seq (.seq (.reg [(.op (some 149) none (.mv (.t 20))),
  (.op (some 150) none (.mv (.t 21))), (.op (some 151) none (.bin .lss (.t 149) (.t 150)))]) (.cond (.t 151) .skip (.exit 8))) (.block 9 (.seq (.reg [(.op (some 152) none (.mv
  (.t 20))), (.op (some 153) none (.mv (.t 21))), (.op (some 154) none (.bin .add (.t 152) (.t 153))), (.op (some 155) none (.cvt .u64 (.t 154))), (.op (some 156) none (.bin .shr
  (.t 155) (.c (.int .u64 1)))), (.op (some 157) none (.cvt .i64 (.t 156))), (.op (some 23) none (.mv (.t 157)))]) (.seq (.reg [(.op (some 158) none (.mv (.t 4))),
  (.op (some 159) none (.mv (.t 0))), (.op (some 160) none (.mv (.t 22))), (.op (some 161) none (.mv (.t 23))), (.op (some 162) none (.bin .sub (.t 160) (.t 161))),
  (.op (some 163) none (.iad 1 (.t 159) (.t 162))), (.op (some 164) none (.ld (.t 163))), (.op (some 165) none (.mv (.t 0))), (.op (some 166) none (.mv (.t 23))),
  (.op (some 167) none (.iad 1 (.t 165) (.t 166))), (.op (some 168) none (.ld (.t 167))), (.op (some 169) none (.callv (.t 158) [(.t 164), (.t 168)])), (.op (some 170) none
  (.bin .lss (.t 169) (.c (.int .i64 0)))), (.op (some 171) none (.un .not (.t 170)))]) (.cond (.t 171) (.reg [(.op (some 172) none (.mv (.t 23))), (.op (some 173) none (.bin .add
  (.t 172) (.c (.int .i64 1)))), (.op (some 20) none (.mv (.t 173)))]) (.reg [(.op (some 174) none (.mv (.t 23))), (.op (some 21) none (.mv (.t 174)))])))))))) (.seq
  (.reg [(.op (some 175) none (.mv (.t 19))), (.op (some 176) none (.mv (.t 20))), (.op (some 177) none (.bin .sub (.t 175) (.t 176))), (.op (some 24) none (.mv (.t 177)))]) (.seq
  (.seq (.reg [(.op (some 178) none (.mv (.t 20))), (.op (some 179) none (.mv (.t 2))), (.op (some 180) none (.bin .lss (.t 178) (.t 179))), (.op (some 181) none (.mv (.t 180))),
  (.op (some 182) (some (181, true)) (.mv (.t 2))), (.op (some 183) (some (181, true)) (.mv (.t 24))), (.op (some 184) (some (181, true)) (.bin .lss (.t 182) (.t 183))),
  (.op (some 185) none (.pick (.t 181) (.t 184) (.c (.bool false))))]) (.cond (.t 185) (.reg [(.op (some 186) none (.mv (.t 0))), (.op (some 187) none (.mv (.t 20))),
  (.op (some 188) none (.mv (.t 2))), (.op (some 189) none (.mv (.t 24))), (.op (some 190) none (.mv (.t 4))), (.op (some 191) none (.call 145 [(.t 186), (.t 187), (.t 188),
  (.t 189), (.t 190)]))]) .skip)) (.seq (.seq (.reg [(.op (some 192) none (.mv (.t 1))), (.op (some 193) none (.mv (.t 20))), (.op (some 194) none (.bin .lss (.t 192) (.t 193))),
  (.op (some 195) none (.mv (.t 194))), (.op (some 196) (some (195, true)) (.mv (.t 20))), (.op (some 197) (some (195, true)) (.mv (.t 18))), (.op (some 198) (some (195, true))
  (.bin .lss (.t 196) (.t 197))), (.op (some 199) none (.pick (.t 195) (.t 198) (.c (.bool false))))]) (.cond (.t 199) (.reg [(.op (some 200) none (.mv (.t 0))),
  (.op (some 201) none (.mv (.t 1))), (.op (some 202) none (.mv (.t 20))), (.op (some 203) none (.mv (.t 18))), (.op (some 204) none (.mv (.t 4))), (.op (some 205) none
  (.call 144 [(.t 200), (.t 201), (.t 202), (.t 203), (.t 204)]))]) .skip)) (.seq (.reg [(.op (some 206) none (.mv (.t 18))), (.op (some 207) none (.mv (.t 24))),
  (.op (some 208) none (.bin .lss (.t 206) (.t 207))), (.op (some 209) none (.mv (.t 208))), (.op (some 210) (some (209, true)) (.mv (.t 24))), (.op (some 211) (some (209, true))
  (.mv (.t 3))), (.op (some 212) (some (209, true)) (.bin .lss (.t 210) (.t 211))), (.op (some 213) none (.pick (.t 209) (.t 212) (.c (.bool false))))]) (.cond (.t 213)
  (.reg [(.op (some 214) none (.mv (.t 0))), (.op (some 215) none (.mv (.t 18))), (.op (some 216) none (.mv (.t 24))), (.op (some 217) none (.mv (.t 3))), (.op (some 218) none
  (.mv (.t 4))), (.op (some 219) none (.call 144 [(.t 214), (.t 215), (.t 216), (.t 217), (.t 218)]))]) .skip))))))))))))), []⟩
def k145 : KFunc := ⟨58, (.seq (.reg [(.op (some 12) none (.mv (.t 2))), (.op (some 13) none (.mv (.t 1))), (.op (some 14) none (.bin .sub (.t 12) (.t 13))), (.op (some 10) none
  (.mv (.t 14)))]) (.seq (.reg [(.op (some 15) none (.mv (.t 3))), (.op (some 16) none (.mv (.t 2))), (.op (some 17) none (.bin .sub (.t 15) (.t 16))), (.op (some 11) none (.mv
  (.t 17)))]) (.seq (.block 0 (.loop (.seq (.seq (.reg [(.op (some 18) none (.mv (.t 10))), (.op (some 19) none (.mv (.t 11))), (.op (some 20) none (.bin .neq (.t 18) (.t 19)))])
  (.cond (.t 20) .skip (.exit 0))) (.block 1 (.seq (.reg [(.op (some 21) none (.mv (.t 10))), (.op (some 22) none (.mv (.t 11))), (.op (some 23) none (.bin .gtr (.t 21)
  (.t 22)))]) (.cond (.t 23) (.seq (.reg [(.op (some 24) none (.mv (.t 0))), (.op (some 25) none (.mv (.t 2))), (.op (some 26) none (.mv (.t 10))), (.op (some 27) none (.bin .sub
  (.t 25) (.t 26))), (.op (some 28) none (.mv (.t 2))), (.op (some 29) none (.mv (.t 11))), (.op (some 30) none (.mv (.t 4))), (.op (some 31) none (.call 146 [(.t 24), (.t 27),
  (.t 28), (.t 29), (.t 30)]))]) (.reg [(.op (some 32) none (.mv (.t 10))), (.op (some 33) none (.mv (.t 11))), (.op (some 34) none (.bin .sub (.t 32) (.t 33))),
  (.op (some 10) none (.mv (.t 34)))])) (.seq (.reg [(.op (some 35) none (.mv (.t 0))), (.op (some 36) none (.mv (.t 2))), (.op (some 37) none (.mv (.t 10))), (.op (some 38) none
  (.bin .sub (.t 36) (.t 37))), (.op (some 39) none (.mv (.t 2))), (.op (some 40) none (.mv (.t 11))), (.op (some 41) none (.bin .add (.t 39) (.t 40))), (.op (some 42) none (.mv
  (.t 10))), (.op (some 43) none (.bin .sub (.t 41) (.t 42))), (.op (some 44) none (.mv (.t 10))), (.op (some 45) none (.mv (.t 4))), (.op (some 46) none (.call 146 [(.t 35),
  (.t 38), (.t 43), (.t 44), (.t 45)]))]) (.reg [(.op (some 47) none (.mv (.t 11))), (.op (some 48) none (.mv (.t 10))), (.op (some 49) none (.bin .sub (.t 47) (.t 48))),
  (.op (some 11) none (.mv (.t 49)))])))))))) (.reg [(.op (some 50) none (.mv (.t 0))), (.op (some 51) none (.mv (.t 2))), (.op (some 52) none (.mv (.t 10))), (.op (some 53) none
  (.bin .sub (.t 51) (.t 52))), (.op (some 54) none (.mv (.t 2))), (.op (some 55) none (.mv (.t 10))), (.op (some 56) none (.mv (.t 4))), (.op (some 57) none (.call 146 [(.t 50),
  (.t 53), (.t 54), (.t 55), (.t 56)]))])))), []⟩
def k146 : KFunc := ⟨38, (.seq (.reg [(.op (some 10) none (.mv (.c (.int .i64 0))))]) (.block 0 (.loop (.seq (.seq (.reg [(.op (some 11) none (.mv (.t 10))), (.op (some 12) none
  (.mv (.t 3))), (.op (some 13) none (.bin .lss (.t 11) (.t 12)))]) (.cond (.t 13) .skip (.exit 0))) (.seq (.block 1 (.reg [(.op (some 16) none (.mv (.t 0))), (.op (some 17) none
  (.mv (.t 1))), (.op (some 18) none (.mv (.t 10))), (.op (some 19) none (.bin .add (.t 17) (.t 18))), (.op (some 20) none (.mv (.t 0))), (.op (some 21) none (.mv (.t 2))),
  (.op (some 22) none (.mv (.t 10))), (.op (some 23) none (.bin .add (.t 21) (.t 22))), (.op (some 24) none (.mv (.t 0))), (.op (some 25) none (.mv (.t 2))), (.op (some 26) none
  (.mv (.t 10))), (.op (some 27) none (.bin .add (.t 25) (.t 26))), (.op (some 28) none (.iad 1 (.t 24) (.t 27))), (.op (some 29) none (.ld (.t 28))), (.op (some 30) none (.mv
  (.t 0))), (.op (some 31) none (.mv (.t 1))), (.op (some 32) none (.mv (.t 10))), (.op (some 33) none (.bin .add (.t 31) (.t 32))), (.op (some 34) none (.iad 1 (.t 30) (.t 33))),
  (.op (some 35) none (.ld (.t 34))), (.op (some 36) none (.iad 1 (.t 16) (.t 19))), (.op none none (.st (.t 36) (.t 29))), (.op (some 37) none (.iad 1 (.t 20) (.t 23))),
  (.op none none (.st (.t 37) (.t 35)))])) (.reg [(.op (some 14) none (.mv (.t 10))), (.op (some 15) none (.bin .add (.t 14) (.c (.int .i64 1)))), (.op (some 10) none (.mv
  (.t 15)))])))))), []⟩
def k167 : KFunc := ⟨18, (.seq (.reg [(.op (some 2) none (.mv (.c (.int .i64 0))))]) (.seq (.reg [(.op (some 3) none (.mv (.c (.int .i64 0))))]) (.seq (.seq
  (.reg [(.op (some 6) none (.mv (.t 0))), (.op (some 7) none (.lenL (.t 6))), (.op (some 8) none (.mv (.c (.int .i64 0))))]) (.block 0 (.loop (.seq (.reg [(.op (some 9) none
  (.bin .lss (.t 8) (.t 7)))]) (.seq (.cond (.t 9) .skip (.exit 0)) (.seq (.block 1 (.seq (.reg [(.op (some 10) none (.iad 1 (.t 6) (.t 8))), (.op (some 11) none (.ld (.t 10))),
  (.op (some 5) none (.mv (.t 11)))]) (.seq (.reg [(.op (some 12) none (.mv (.t 5))), (.op (some 13) none (.mv (.t 3))), (.op (some 14) none (.bin .neq (.t 12) (.t 13)))]) (.cond
  (.t 14) (.seq (.reg [(.op (some 15) none (.mv (.t 5))), (.op (some 2) none (.mv (.t 15)))]) .ret) .skip)))) (.reg [(.op (some 16) none (.bin .add (.t 8) (.c (.int .i64 1)))),
  (.op (some 8) none (.mv (.t 16)))]))))))) (.seq (.reg [(.op (some 17) none (.mv (.t 3))), (.op (some 2) none (.mv (.t 17)))]) .ret)))), [(.t 2)]⟩
def k170 : KFunc := ⟨40, (.seq (.reg [(.op (some 6) none (.mv (.c (.bool false))))]) (.seq (.reg [(.op (some 7) none (.mv (.t 0))), (.op (some 8) none (.mv (.t 1))),
  (.op (some 9) none (.iad 1 (.t 7) (.t 8))), (.op (some 10) none (.ld (.t 9))), (.op (some 11) none (.nck (.t 10))), (.op (some 12) none (.fad 0 (.t 11))), (.op (some 13) none
  (.ld (.t 12))), (.op (some 14) none (.mv (.t 0))), (.op (some 15) none (.mv (.t 2))), (.op (some 16) none (.iad 1 (.t 14) (.t 15))), (.op (some 17) none (.ld (.t 16))),
  (.op (some 18) none (.nck (.t 17))), (.op (some 19) none (.fad 0 (.t 18))), (.op (some 20) none (.ld (.t 19))), (.op (some 22) none (.mv (.t 0))), (.op (some 23) none (.mv
  (.t 1))), (.op (some 24) none (.iad 1 (.t 22) (.t 23))), (.op (some 25) none (.ld (.t 24))), (.op (some 26) none (.nck (.t 25))), (.op (some 27) none (.fad 1 (.t 26))),
  (.op (some 28) none (.ld (.t 27))), (.op (some 29) none (.mv (.t 0))), (.op (some 30) none (.mv (.t 2))), (.op (some 31) none (.iad 1 (.t 29) (.t 30))), (.op (some 32) none (.ld
  (.t 31))), (.op (some 33) none (.nck (.t 32))), (.op (some 34) none (.fad 1 (.t 33))), (.op (some 35) none (.ld (.t 34))), (.op (some 21) none (.call 124 [(.t 13), (.t 20)])),
  (.chk 25 none (.ld (.t 24))), (.chk 28 none (.ld (.t 27))), (.chk 32 none (.ld (.t 31))), (.chk 35 none (.ld (.t 34))), (.op (some 36) none (.call 124 [(.t 28), (.t 35)])),
  (.op (some 37) none (.bsl 3 2 [(.int .i64 0), (.int .i64 0)] [(0, (1, (.t 21))), (1, (1, (.t 36)))])), (.op (some 38) none (.call 167 [(.t 37)])), (.op (some 39) none (.bin .lss
  (.t 38) (.c (.int .i64 0)))), (.op (some 6) none (.mv (.t 39)))]) .ret)), [(.t 6)]⟩
def k171 : KFunc := ⟨25, (.seq (.reg [(.op (some 2) none (.mv (.c .nilIface)))]) (.seq (.reg [(.op (some 5) none (.mv (.t 0))), (.op (some 6) none (.nck (.t 5))),
  (.op (some 7) none (.ld (.t 6))), (.op (some 8) none (.lenL (.t 7))), (.op (some 9) none (.bin .sub (.t 8) (.c (.int .i64 1)))), (.op (some 3) none (.mv (.t 9)))]) (.seq
  (.reg [(.op (some 10) none (.mv (.t 0))), (.op (some 11) none (.nck (.t 10))), (.op (some 12) none (.ld (.t 11))), (.op (some 13) none (.mv (.t 3))), (.op (some 14) none (.iad 1
  (.t 12) (.t 13))), (.op (some 15) none (.ld (.t 14))), (.op (some 4) none (.mv (.t 15)))]) (.seq (.reg [(.op (some 16) none (.mv (.t 0))), (.op (some 17) none (.mv (.t 0))),
  (.op (some 18) none (.nck (.t 17))), (.op (some 19) none (.ld (.t 18))), (.op (some 20) none (.mv (.t 3))), (.op (some 21) none (.slc 120 1 (.t 19) none (some (.t 20)))),
  (.op (some 22) none (.nck (.t 16))), (.op none none (.st (.t 22) (.t 21)))]) (.seq (.reg [(.op (some 23) none (.mv (.t 4))), (.op (some 24) none (.mki 120 (.t 23))),
  (.op (some 2) none (.mv (.t 24)))]) .ret))))), [(.t 2)]⟩
def k172 : KFunc := ⟨20, (.seq (.reg [(.op (some 7) none (.mv (.t 1))), (.op (some 8) none (.tas 120 (.pointer none) true (.t 7))), (.op (some 6) none (.mv (.t 8))),
  (.op (some 9) none (.xt (.t 6) 0)), (.op (some 10) none (.xt (.t 6) 1)), (.op (some 4) none (.mv (.t 9))), (.op (some 5) none (.mv (.t 10)))]) (.seq (.reg [(.op (some 11) none
  (.mv (.t 5)))]) (.cond (.t 11) (.reg [(.op (some 12) none (.mv (.t 0))), (.op (some 13) none (.mv (.t 0))), (.op (some 14) none (.nck (.t 13))), (.op (some 15) none (.ld
  (.t 14))), (.op (some 16) none (.mv (.t 4))), (.op (some 17) none (.bsl 120 1 [(.pointer none)] [(0, (1, (.t 16)))])), (.op (some 18) none (.app 120 1 8 (.t 15) (.t 17))),
  (.op (some 19) none (.nck (.t 12))), (.op none none (.st (.t 19) (.t 18)))]) .skip))), []⟩
def k173 : KFunc := ⟨20, (.reg [(.op (some 6) none (.mv (.t 0))), (.op (some 7) none (.mv (.t 1))), (.op (some 8) none (.mv (.t 0))), (.op (some 9) none (.mv (.t 2))),
  (.op (some 10) none (.mv (.t 0))), (.op (some 11) none (.mv (.t 2))), (.op (some 12) none (.iad 1 (.t 10) (.t 11))), (.op (some 13) none (.ld (.t 12))), (.op (some 14) none (.mv
  (.t 0))), (.op (some 15) none (.mv (.t 1))), (.op (some 16) none (.iad 1 (.t 14) (.t 15))), (.op (some 17) none (.ld (.t 16))), (.op (some 18) none (.iad 1 (.t 6) (.t 7))),
  (.op none none (.st (.t 18) (.t 13))), (.op (some 19) none (.iad 1 (.t 8) (.t 9))), (.op none none (.st (.t 19) (.t 17)))]), []⟩
theorem c10 : okFunc Go.Proofs.Try.prog 10 = true ∧ ∃ fn, Go.Proofs.Try.prog.funcs[10]? = some fn ∧ cFunc Go.Proofs.Try.prog fn = some k10 := ⟨by kernel_rfl, Go.Proofs.Try.f10, Go.Proofs.Try.func10, by kernel_rfl⟩
theorem c22 : okFunc Go.Proofs.Try.prog 22 = true ∧ ∃ fn, Go.Proofs.Try.prog.funcs[22]? = some fn ∧ cFunc Go.Proofs.Try.prog fn = some k22 := ⟨by kernel_rfl, Go.Proofs.Try.f22, Go.Proofs.Try.func22, by kernel_rfl⟩
theorem c37 : okFunc Go.Proofs.Try.prog 37 = true ∧ ∃ fn, Go.Proofs.Try.prog.funcs[37]? = some fn ∧ cFunc Go.Proofs.Try.prog fn = some k37 := ⟨by kernel_rfl, Go.Proofs.Try.f37, Go.Proofs.Try.func37, by kernel_rfl⟩
theorem c38 : okFunc Go.Proofs.Try.prog 38 = true ∧ ∃ fn, Go.Proofs.Try.prog.funcs[38]? = some fn ∧ cFunc Go.Proofs.Try.prog fn = some k38 := ⟨by kernel_rfl, Go.Proofs.Try.f38, Go.Proofs.Try.func38, by kernel_rfl⟩
theorem c39 : okFunc Go.Proofs.Try.prog 39 = true ∧ ∃ fn, Go.Proofs.Try.prog.funcs[39]? = some fn ∧ cFunc Go.Proofs.Try.prog fn = some k39 := ⟨by kernel_rfl, Go.Proofs.Try.f39, Go.Proofs.Try.func39, by kernel_rfl⟩
theorem c40 : okFunc Go.Proofs.Try.prog 40 = true ∧ ∃ fn, Go.Proofs.Try.prog.funcs[40]? = some fn ∧ cFunc Go.Proofs.Try.prog fn = some k40 := ⟨by kernel_rfl, Go.Proofs.Try.f40, Go.Proofs.Try.func40, by kernel_rfl⟩
theorem c41 : okFunc Go.Proofs.Try.prog 41 = true ∧ ∃ fn, Go.Proofs.Try.prog.funcs[41]? = some fn ∧ cFunc Go.Proofs.Try.prog fn = some k41 := ⟨by kernel_rfl, Go.Proofs.Try.f41, Go.Proofs.Try.func41, by kernel_rfl⟩
theorem c42 : okFunc Go.Proofs.Try.prog 42 = true ∧ ∃ fn, Go.Proofs.Try.prog.funcs[42]? = some fn ∧ cFunc Go.Proofs.Try.prog fn = some k42 := ⟨by kernel_rfl, Go.Proofs.Try.f42, Go.Proofs.Try.func42, by kernel_rfl⟩
theorem c43 : okFunc Go.Proofs.Try.prog 43 = true ∧ ∃ fn, Go.Proofs.Try.prog.funcs[43]? = some fn ∧ cFunc Go.Proofs.Try.prog fn = some k43 := ⟨by kernel_rfl, Go.Proofs.Try.f43, Go.Proofs.Try.func43, by kernel_rfl⟩
theorem c44 : okFunc Go.Proofs.Try.prog 44 = true ∧ ∃ fn, Go.Proofs.Try.prog.funcs[44]? = some fn ∧ cFunc Go.Proofs.Try.prog fn = some k44 := ⟨by kernel_rfl, Go.Proofs.Try.f44, Go.Proofs.Try.func44, by kernel_rfl⟩
theorem c49 : okFunc Go.Proofs.Try.prog 49 = true ∧ ∃ fn, Go.Proofs.Try.prog.funcs[49]? = some fn ∧ cFunc Go.Proofs.Try.prog fn = some k49 := ⟨by kernel_rfl, Go.Proofs.Try.f49, Go.Proofs.Try.func49, by kernel_rfl⟩
theorem c57 : okFunc Go.Proofs.Try.prog 57 = true ∧ ∃ fn, Go.Proofs.Try.prog.funcs[57]? = some fn ∧ cFunc Go.Proofs.Try.prog fn = some k57 := ⟨by kernel_rfl, Go.Proofs.Try.f57, Go.Proofs.Try.func57, by kernel_rfl⟩
theorem c59 : okFunc Go.Proofs.Try.prog 59 = true ∧ ∃ fn, Go.Proofs.Try.prog.funcs[59]? = some fn ∧ cFunc Go.Proofs.Try.prog fn = some k59 := ⟨by kernel_rfl, Go.Proofs.Try.f59, Go.Proofs.Try.func59, by kernel_rfl⟩
theorem c60 : okFunc Go.Proofs.Try.prog 60 = true ∧ ∃ fn, Go.Proofs.Try.prog.funcs[60]? = some fn ∧ cFunc Go.Proofs.Try.prog fn = some k60 := ⟨by kernel_rfl, Go.Proofs.Try.f60, Go.Proofs.Try.func60, by kernel_rfl⟩
theorem c61 : okFunc Go.Proofs.Try.prog 61 = true ∧ ∃ fn, Go.Proofs.Try.prog.funcs[61]? = some fn ∧ cFunc Go.Proofs.Try.prog fn = some k61 := ⟨by kernel_rfl, Go.Proofs.Try.f61, Go.Proofs.Try.func61, by kernel_rfl⟩
theorem c70 : okFunc Go.Proofs.Try.prog 70 = true ∧ ∃ fn, Go.Proofs.Try.prog.funcs[70]? = some fn ∧ cFunc Go.Proofs.Try.prog fn = some k70 := ⟨by kernel_rfl, Go.Proofs.Try.f70, Go.Proofs.Try.func70, by kernel_rfl⟩
theorem c87 : okFunc Go.Proofs.Try.prog 87 = true ∧ ∃ fn, Go.Proofs.Try.prog.funcs[87]? = some fn ∧ cFunc Go.Proofs.Try.prog fn = some k87 := ⟨by kernel_rfl, Go.Proofs.Try.f87, Go.Proofs.Try.func87, by kernel_rfl⟩
theorem c88 : okFunc Go.Proofs.Try.prog 88 = true ∧ ∃ fn, Go.Proofs.Try.prog.funcs[88]? = some fn ∧ cFunc Go.Proofs.Try.prog fn = some k88 := ⟨by kernel_rfl, Go.Proofs.Try.f88, Go.Proofs.Try.func88, by kernel_rfl⟩
theorem c89 : okFunc Go.Proofs.Try.prog 89 = true ∧ ∃ fn, Go.Proofs.Try.prog.funcs[89]? = some fn ∧ cFunc Go.Proofs.Try.prog fn = some k89 := ⟨by kernel_rfl, Go.Proofs.Try.f89, Go.Proofs.Try.func89, by kernel_rfl⟩
theorem c90 : okFunc Go.Proofs.Try.prog 90 = true ∧ ∃ fn, Go.Proofs.Try.prog.funcs[90]? = some fn ∧ cFunc Go.Proofs.Try.prog fn = some k90 := ⟨by kernel_rfl, Go.Proofs.Try.f90, Go.Proofs.Try.func90, by kernel_rfl⟩
theorem c91 : okFunc Go.Proofs.Try.prog 91 = true ∧ ∃ fn, Go.Proofs.Try.prog.funcs[91]? = some fn ∧ cFunc Go.Proofs.Try.prog fn = some k91 := ⟨by kernel_rfl, Go.Proofs.Try.f91, Go.Proofs.Try.func91, by kernel_rfl⟩
theorem c92 : okFunc Go.Proofs.Try.prog 92 = true ∧ ∃ fn, Go.Proofs.Try.prog.funcs[92]? = some fn ∧ cFunc Go.Proofs.Try.prog fn = some k92 := ⟨by kernel_rfl, Go.Proofs.Try.f92, Go.Proofs.Try.func92, by kernel_rfl⟩
theorem c93 : okFunc Go.Proofs.Try.prog 93 = true ∧ ∃ fn, Go.Proofs.Try.prog.funcs[93]? = some fn ∧ cFunc Go.Proofs.Try.prog fn = some k93 := ⟨by kernel_rfl, Go.Proofs.Try.f93, Go.Proofs.Try.func93, by kernel_rfl⟩
theorem c99 : okFunc Go.Proofs.Try.prog 99 = true ∧ ∃ fn, Go.Proofs.Try.prog.funcs[99]? = some fn ∧ cFunc Go.Proofs.Try.prog fn = some k99 := ⟨by kernel_rfl, Go.Proofs.Try.f99, Go.Proofs.Try.func99, by kernel_rfl⟩
theorem c101 : okFunc Go.Proofs.Try.prog 101 = true ∧ ∃ fn, Go.Proofs.Try.prog.funcs[101]? = some fn ∧ cFunc Go.Proofs.Try.prog fn = some k101 := ⟨by kernel_rfl, Go.Proofs.Try.f101, Go.Proofs.Try.func101, by kernel_rfl⟩
theorem c102 : okFunc Go.Proofs.Try.prog 102 = true ∧ ∃ fn, Go.Proofs.Try.prog.funcs[102]? = some fn ∧ cFunc Go.Proofs.Try.prog fn = some k102 := ⟨by kernel_rfl, Go.Proofs.Try.f102, Go.Proofs.Try.func102, by kernel_rfl⟩
theorem c105 : okFunc Go.Proofs.Try.prog 105 = true ∧ ∃ fn, Go.Proofs.Try.prog.funcs[105]? = some fn ∧ cFunc Go.Proofs.Try.prog fn = some k105 := ⟨by kernel_rfl, Go.Proofs.Try.f105, Go.Proofs.Try.func105, by kernel_rfl⟩
theorem c108 : okFunc Go.Proofs.Try.prog 108 = true ∧ ∃ fn, Go.Proofs.Try.prog.funcs[108]? = some fn ∧ cFunc Go.Proofs.Try.prog fn = some k108 := ⟨by kernel_rfl, Go.Proofs.Try.f108, Go.Proofs.Try.func108, by kernel_rfl⟩
theorem c111 : okFunc Go.Proofs.Try.prog 111 = true ∧ ∃ fn, Go.Proofs.Try.prog.funcs[111]? = some fn ∧ cFunc Go.Proofs.Try.prog fn = some k111 := ⟨by kernel_rfl, Go.Proofs.Try.f111, Go.Proofs.Try.func111, by kernel_rfl⟩
theorem c113 : okFunc Go.Proofs.Try.prog 113 = true ∧ ∃ fn, Go.Proofs.Try.prog.funcs[113]? = some fn ∧ cFunc Go.Proofs.Try.prog fn = some k113 := ⟨by kernel_rfl, Go.Proofs.Try.f113, Go.Proofs.Try.func113, by kernel_rfl⟩
theorem c114 : okFunc Go.Proofs.Try.prog 114 = true ∧ ∃ fn, Go.Proofs.Try.prog.funcs[114]? = some fn ∧ cFunc Go.Proofs.Try.prog fn = some k114 := ⟨by kernel_rfl, Go.Proofs.Try.f114, Go.Proofs.Try.func114, by kernel_rfl⟩
theorem c118 : okFunc Go.Proofs.Try.prog 118 = true ∧ ∃ fn, Go.Proofs.Try.prog.funcs[118]? = some fn ∧ cFunc Go.Proofs.Try.prog fn = some k118 := ⟨by kernel_rfl, Go.Proofs.Try.f118, Go.Proofs.Try.func118, by kernel_rfl⟩
theorem c119 : okFunc Go.Proofs.Try.prog 119 = true ∧ ∃ fn, Go.Proofs.Try.prog.funcs[119]? = some fn ∧ cFunc Go.Proofs.Try.prog fn = some k119 := ⟨by kernel_rfl, Go.Proofs.Try.f119, Go.Proofs.Try.func119, by kernel_rfl⟩
theorem c120 : okFunc Go.Proofs.Try.prog 120 = true ∧ ∃ fn, Go.Proofs.Try.prog.funcs[120]? = some fn ∧ cFunc Go.Proofs.Try.prog fn = some k120 := ⟨by kernel_rfl, Go.Proofs.Try.f120, Go.Proofs.Try.func120, by kernel_rfl⟩
theorem c121 : okFunc Go.Proofs.Try.prog 121 = true ∧ ∃ fn, Go.Proofs.Try.prog.funcs[121]? = some fn ∧ cFunc Go.Proofs.Try.prog fn = some k121 := ⟨by kernel_rfl, Go.Proofs.Try.f121, Go.Proofs.Try.func121, by kernel_rfl⟩
theorem c122 : okFunc Go.Proofs.Try.prog 122 = true ∧ ∃ fn, Go.Proofs.Try.prog.funcs[122]? = some fn ∧ cFunc Go.Proofs.Try.prog fn = some k122 := ⟨by kernel_rfl, Go.Proofs.Try.f122, Go.Proofs.Try.func122, by kernel_rfl⟩
theorem c123 : okFunc Go.Proofs.Try.prog 123 = true ∧ ∃ fn, Go.Proofs.Try.prog.funcs[123]? = some fn ∧ cFunc Go.Proofs.Try.prog fn = some k123 := ⟨by kernel_rfl, Go.Proofs.Try.f123, Go.Proofs.Try.func123, by kernel_rfl⟩
theorem c124 : okFunc Go.Proofs.Try.prog 124 = true ∧ ∃ fn, Go.Proofs.Try.prog.funcs[124]? = some fn ∧ cFunc Go.Proofs.Try.prog fn = some k124 := ⟨by kernel_rfl, Go.Proofs.Try.f124, Go.Proofs.Try.func124, by kernel_rfl⟩
theorem c126 : okFunc Go.Proofs.Try.prog 126 = true ∧ ∃ fn, Go.Proofs.Try.prog.funcs[126]? = some fn ∧ cFunc Go.Proofs.Try.prog fn = some k126 := ⟨by kernel_rfl, Go.Proofs.Try.f126, Go.Proofs.Try.func126, by kernel_rfl⟩
theorem c131 : okFunc Go.Proofs.Try.prog 131 = true ∧ ∃ fn, Go.Proofs.Try.prog.funcs[131]? = some fn ∧ cFunc Go.Proofs.Try.prog fn = some k131 := ⟨by kernel_rfl, Go.Proofs.Try.f131, Go.Proofs.Try.func131, by kernel_rfl⟩
theorem c132 : okFunc Go.Proofs.Try.prog 132 = true ∧ ∃ fn, Go.Proofs.Try.prog.funcs[132]? = some fn ∧ cFunc Go.Proofs.Try.prog fn = some k132 := ⟨by kernel_rfl, Go.Proofs.Try.f132, Go.Proofs.Try.func132, by kernel_rfl⟩
theorem c135 : okFunc Go.Proofs.Try.prog 135 = true ∧ ∃ fn, Go.Proofs.Try.prog.funcs[135]? = some fn ∧ cFunc Go.Proofs.Try.prog fn = some k135 := ⟨by kernel_rfl, Go.Proofs.Try.f135, Go.Proofs.Try.func135, by kernel_rfl⟩
theorem c136 : okFunc Go.Proofs.Try.prog 136 = true ∧ ∃ fn, Go.Proofs.Try.prog.funcs[136]? = some fn ∧ cFunc Go.Proofs.Try.prog fn = some k136 := ⟨by kernel_rfl, Go.Proofs.Try.f136, Go.Proofs.Try.func136, by kernel_rfl⟩
theorem c137 : okFunc Go.Proofs.Try.prog 137 = true ∧ ∃ fn, Go.Proofs.Try.prog.funcs[137]? = some fn ∧ cFunc Go.Proofs.Try.prog fn = some k137 := ⟨by kernel_rfl, Go.Proofs.Try.f137, Go.Proofs.Try.func137, by kernel_rfl⟩
theorem c143 : okFunc Go.Proofs.Try.prog 143 = true ∧ ∃ fn, Go.Proofs.Try.prog.funcs[143]? = some fn ∧ cFunc Go.Proofs.Try.prog fn = some k143 := ⟨by kernel_rfl, Go.Proofs.Try.f143, Go.Proofs.Try.func143, by kernel_rfl⟩
theorem c144 : okFunc Go.Proofs.Try.prog 144 = true ∧ ∃ fn, Go.Proofs.Try.prog.funcs[144]? = some fn ∧ cFunc Go.Proofs.Try.prog fn = some k144 := ⟨by kernel_rfl, Go.Proofs.Try.f144, Go.Proofs.Try.func144, by kernel_rfl⟩
theorem c145 : okFunc Go.Proofs.Try.prog 145 = true ∧ ∃ fn, Go.Proofs.Try.prog.funcs[145]? = some fn ∧ cFunc Go.Proofs.Try.prog fn = some k145 := ⟨by kernel_rfl, Go.Proofs.Try.f145, Go.Proofs.Try.func145, by kernel_rfl⟩
theorem c146 : okFunc Go.Proofs.Try.prog 146 = true ∧ ∃ fn, Go.Proofs.Try.prog.funcs[146]? = some fn ∧ cFunc Go.Proofs.Try.prog fn = some k146 := ⟨by kernel_rfl, Go.Proofs.Try.f146, Go.Proofs.Try.func146, by kernel_rfl⟩
theorem c167 : okFunc Go.Proofs.Try.prog 167 = true ∧ ∃ fn, Go.Proofs.Try.prog.funcs[167]? = some fn ∧ cFunc Go.Proofs.Try.prog fn = some k167 := ⟨by kernel_rfl, Go.Proofs.Try.f167, Go.Proofs.Try.func167, by kernel_rfl⟩
theorem c170 : okFunc Go.Proofs.Try.prog 170 = true ∧ ∃ fn, Go.Proofs.Try.prog.funcs[170]? = some fn ∧ cFunc Go.Proofs.Try.prog fn = some k170 := ⟨by kernel_rfl, Go.Proofs.Try.f170, Go.Proofs.Try.func170, by kernel_rfl⟩
theorem c171 : okFunc Go.Proofs.Try.prog 171 = true ∧ ∃ fn, Go.Proofs.Try.prog.funcs[171]? = some fn ∧ cFunc Go.Proofs.Try.prog fn = some k171 := ⟨by kernel_rfl, Go.Proofs.Try.f171, Go.Proofs.Try.func171, by kernel_rfl⟩
theorem c172 : okFunc Go.Proofs.Try.prog 172 = true ∧ ∃ fn, Go.Proofs.Try.prog.funcs[172]? = some fn ∧ cFunc Go.Proofs.Try.prog fn = some k172 := ⟨by kernel_rfl, Go.Proofs.Try.f172, Go.Proofs.Try.func172, by kernel_rfl⟩
theorem c173 : okFunc Go.Proofs.Try.prog 173 = true ∧ ∃ fn, Go.Proofs.Try.prog.funcs[173]? = some fn ∧ cFunc Go.Proofs.Try.prog fn = some k173 := ⟨by kernel_rfl, Go.Proofs.Try.f173, Go.Proofs.Try.func173, by kernel_rfl⟩
def F : FuncId → Option KFunc
  | 10 => some k10
  | 22 => some k22
  | 37 => some k37
  | 38 => some k38
  | 39 => some k39
  | 40 => some k40
  | 41 => some k41
  | 42 => some k42
  | 43 => some k43
  | 44 => some k44
  | 49 => some k49
  | 57 => some k57
  | 59 => some k59
  | 60 => some k60
  | 61 => some k61
  | 70 => some k70
  | 87 => some k87
  | 88 => some k88
  | 89 => some k89
  | 90 => some k90
  | 91 => some k91
  | 92 => some k92
  | 93 => some k93
  | 99 => some k99
  | 101 => some k101
  | 102 => some k102
  | 105 => some k105
  | 108 => some k108
  | 111 => some k111
  | 113 => some k113
  | 114 => some k114
  | 118 => some k118
  | 119 => some k119
  | 120 => some k120
  | 121 => some k121
  | 122 => some k122
  | 123 => some k123
  | 124 => some k124
  | 126 => some k126
  | 131 => some k131
  | 132 => some k132
  | 135 => some k135
  | 136 => some k136
  | 137 => some k137
  | 143 => some k143
  | 144 => some k144
  | 145 => some k145
  | 146 => some k146
  | 167 => some k167
  | 170 => some k170
  | 171 => some k171
  | 172 => some k172
  | 173 => some k173
  | _ => none
def M : TypeId → String → Option (FuncId × Recv)
  | 157, "Len" => some (119, .ld)
  | 157, "Less" => some (170, .ld)
  | 157, "Swap" => some (173, .ld)
  | 157, "Pop" => some (171, .as)
  | 157, "Push" => some (172, .as)
  | _, _ => none
theorem F_ok : ∀ f k, F f = some k → okFunc Go.Proofs.Try.prog f = true ∧ ∃ fn, Go.Proofs.Try.prog.funcs[f]? = some fn ∧ cFunc Go.Proofs.Try.prog fn = some k := by
  intro f k h
  unfold F at h
  split at h
  · cases h; exact c10
  · cases h; exact c22
  · cases h; exact c37
  · cases h; exact c38
  · cases h; exact c39
  · cases h; exact c40
  · cases h; exact c41
  · cases h; exact c42
  · cases h; exact c43
  · cases h; exact c44
  · cases h; exact c49
  · cases h; exact c57
  · cases h; exact c59
  · cases h; exact c60
  · cases h; exact c61
  · cases h; exact c70
  · cases h; exact c87
  · cases h; exact c88
  · cases h; exact c89
  · cases h; exact c90
  · cases h; exact c91
  · cases h; exact c92
  · cases h; exact c93
  · cases h; exact c99
  · cases h; exact c101
  · cases h; exact c102
  · cases h; exact c105
  · cases h; exact c108
  · cases h; exact c111
  · cases h; exact c113
  · cases h; exact c114
  · cases h; exact c118
  · cases h; exact c119
  · cases h; exact c120
  · cases h; exact c121
  · cases h; exact c122
  · cases h; exact c123
  · cases h; exact c124
  · cases h; exact c126
  · cases h; exact c131
  · cases h; exact c132
  · cases h; exact c135
  · cases h; exact c136
  · cases h; exact c137
  · cases h; exact c143
  · cases h; exact c144
  · cases h; exact c145
  · cases h; exact c146
  · cases h; exact c167
  · cases h; exact c170
  · cases h; exact c171
  · cases h; exact c172
  · cases h; exact c173
  · cases h
theorem M_ok : ∀ t n f r, M t n = some (f, r) → methOk Go.Proofs.Try.prog t n f r = true := by
  intro t n f r h
  unfold M at h
  split at h
  · cases h; kernel_rfl
  · cases h; kernel_rfl
  · cases h; kernel_rfl
  · cases h; kernel_rfl
  · cases h; kernel_rfl
  · cases h
end Go.Proofs.Ytlboioplemlneaa.K
