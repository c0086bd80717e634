/- The functions in K's language, each held against the given translation by the kernel. Printed by a program of this work (seat.py). -/
import Derived.Test.YtccjanieihlpcaaKSh
import Derived.Test.YtccjanieihlpcaaProg
set_option maxRecDepth 100000
set_option linter.unusedVariables false
namespace Go.Proofs.Ytccjanieihlpcaa.K
open Go Go.Proofs
def k3 : KFunc := ⟨69, (.seq (.reg [(.op (some 2) none (.mv (.c (.bool false))))]) (.seq (.seq (.reg [(.op (some 9) none (.call 12 [])), (.op (some 10) none (.un .not (.t 9)))])
  (.cond (.t 10) (.seq (.reg [(.op (some 2) none (.mv (.c (.bool false))))]) .ret) .skip)) (.seq (.seq (.reg [(.op (some 11) none (.mv (.t 0))), (.op (some 12) none (.lenL
  (.t 11))), (.op (some 13) none (.bin .gtr (.t 12) (.c (.int .i64 60))))]) (.cond (.t 13) (.seq (.reg [(.op (some 2) none (.mv (.c (.bool true))))]) .ret) .skip)) (.seq
  (.reg [(.op (some 14) none (.mv (.t 0))), (.op (some 15) none (.call 13 [(.t 14)])), (.op (some 3) none (.mv (.t 15)))]) (.seq (.reg [(.op (some 4) none (.mv (.c
  (.int .i64 0))))]) (.seq (.seq (.reg [(.op (some 16) none (.mv (.t 0))), (.op (some 17) none (.lenL (.t 16))), (.op (some 18) none (.mv (.c (.int .i64 0))))]) (.block 0 (.loop
  (.seq (.reg [(.op (some 19) none (.bin .lss (.t 18) (.t 17)))]) (.seq (.cond (.t 19) .skip (.exit 0)) (.seq (.block 1 (.seq (.reg [(.op (some 20) none (.mv (.t 18))),
  (.op (some 5) none (.mv (.t 20)))]) (.seq (.reg [(.op (some 21) none (.mv (.t 0))), (.op (some 22) none (.mv (.t 5))), (.op (some 23) none (.call 14 [(.t 21), (.t 22)])),
  (.op (some 6) none (.mv (.t 23)))]) (.seq (.seq (.reg [(.op (some 24) none (.mv (.t 6))), (.op (some 25) none (.bin .eql (.t 24) (.c (.int .i64 0))))]) (.cond (.t 25)
  (.exit 1) .skip)) (.seq (.seq (.reg [(.op (some 26) none (.mv (.t 4))), (.op (some 27) none (.mv (.t 3))), (.op (some 28) none (.lenL (.t 27))), (.op (some 29) none (.bin .geq
  (.t 26) (.t 28))), (.op (some 30) none (.mv (.t 29))), (.op (some 31) (some (30, false)) (.mv (.t 3))), (.op (some 32) (some (30, false)) (.mv (.t 4))),
  (.op (some 33) (some (30, false)) (.iad 2 (.t 31) (.t 32))), (.op (some 34) (some (30, false)) (.ldn 2 (.t 33))), (.op (some 35) (some (30, false)) (.mv (.t 5))),
  (.op (some 36) (some (30, false)) (.mv (.t 6))), (.op (some 37) (some (30, false)) (.build [(.int .i64 0), (.int .i64 0)] [(0, (1, (.t 35))), (1, (1, (.t 36)))])),
  (.op (some 38) (some (30, false)) (.eqv (.agg [.int, .int]) true (.t 34) (.t 37))), (.op (some 39) none (.pick (.t 30) (.c (.bool true)) (.t 38)))]) (.cond (.t 39) (.seq
  (.reg [(.op (some 2) none (.mv (.c (.bool false))))]) .ret) .skip)) (.reg [(.op (some 40) none (.mv (.t 4))), (.op (some 41) none (.bin .add (.t 40) (.c (.int .i64 1)))),
  (.op (some 4) none (.mv (.t 41)))])))))) (.reg [(.op (some 42) none (.bin .add (.t 18) (.c (.int .i64 1)))), (.op (some 18) none (.mv (.t 42)))]))))))) (.seq
  (.reg [(.op (some 44) none (.mv (.t 0))), (.op (some 45) none (.call 15 [(.t 44)])), (.op (some 43) none (.mv (.t 45))), (.op (some 46) none (.xt (.t 43) 0)),
  (.op (some 47) none (.xt (.t 43) 1)), (.op (some 7) none (.alloc 28 [(.int .i64 0), (.int .i64 0)])), (.op none none (.stn 2 (.t 7) (.t 46))), (.op (some 8) none (.mv
  (.t 47)))]) (.seq (.reg [(.op (some 48) none (.mv (.t 4))), (.op (some 49) none (.mv (.t 3))), (.op (some 50) none (.lenL (.t 49))), (.op (some 51) none (.bin .eql (.t 48)
  (.t 50))), (.op (some 52) none (.mv (.t 51))), (.op (some 53) (some (52, true)) (.mv (.t 8))), (.op (some 54) (some (52, true)) (.mv (.t 4))), (.op (some 55) (some (52, true))
  (.bin .gtr (.t 54) (.c (.int .i64 0)))), (.op (some 56) (some (52, true)) (.eqv (.s .bool) false (.t 53) (.t 55))), (.op (some 57) none (.pick (.t 52) (.t 56) (.c
  (.bool false)))), (.op (some 58) none (.mv (.t 57))), (.op (some 59) (some (58, true)) (.mv (.t 8))), (.op (some 60) (some (58, true)) (.un .not (.t 59))),
  (.op (some 61) (some (58, true)) (.mv (.t 60))), (.op (some 62) (some (61, false)) (.ldn 2 (.t 7))), (.op (some 63) (some (61, false)) (.mv (.t 3))), (.op (some 64) (some (61,
  false)) (.iad 2 (.t 63) (.c (.int .i64 0)))), (.op (some 65) (some (61, false)) (.ldn 2 (.t 64))), (.op (some 66) (some (61, false)) (.eqv (.agg [.int, .int]) false (.t 62)
  (.t 65))), (.op (some 67) (some (58, true)) (.pick (.t 61) (.c (.bool true)) (.t 66))), (.op (some 68) none (.pick (.t 58) (.t 67) (.c (.bool false)))), (.op (some 2) none (.mv
  (.t 68)))]) .ret)))))))), [(.t 2)]⟩
def k12 : KFunc := ⟨28, (.seq (.reg [(.op (some 0) none (.mv (.c (.bool false))))]) (.seq (.reg [(.op (some 6) none (.build [(.int .i64 0), (.int .i64 0), (.int .i64 0),
  (.int .i64 0), (.string (bs []))] [(0, (1, (.c (.int .i64 2)))), (1, (1, (.c (.int .i64 1)))), (2, (1, (.c (.int .i64 1))))])), (.op (some 7) none (.bsl 74 1 [(.int .i64 0),
  (.int .i64 0), (.int .i64 0), (.int .i64 0), (.string (bs []))] [(0, (5, (.t 6)))])), (.op (some 8) none (.call 15 [(.t 7)])), (.op (some 5) none (.mv (.t 8))),
  (.op (some 9) none (.xt (.t 5) 0)), (.op (some 10) none (.xt (.t 5) 1)), (.op (some 1) none (.alloc 28 [(.int .i64 0), (.int .i64 0)])), (.op none none (.stn 2 (.t 1) (.t 9))),
  (.op (some 2) none (.mv (.t 10)))]) (.seq (.reg [(.op (some 12) none (.build [(.int .i64 0), (.int .i64 0), (.int .i64 0), (.int .i64 0), (.string (bs []))] [(0, (1, (.c
  (.int .i64 1)))), (1, (1, (.c (.int .i64 1)))), (2, (1, (.c (.int .i64 1))))])), (.op (some 13) none (.build [(.int .i64 0), (.int .i64 0), (.int .i64 0), (.int .i64 0),
  (.string (bs []))] [(0, (1, (.c (.int .i64 2)))), (1, (1, (.c (.int .i64 1)))), (2, (1, (.c (.int .i64 1))))])), (.op (some 14) none (.bsl 74 2 [(.int .i64 0), (.int .i64 0),
  (.int .i64 0), (.int .i64 0), (.string (bs [])), (.int .i64 0), (.int .i64 0), (.int .i64 0), (.int .i64 0), (.string (bs []))] [(0, (5, (.t 12))), (5, (5, (.t 13)))])),
  (.op (some 15) none (.call 15 [(.t 14)])), (.op (some 11) none (.mv (.t 15))), (.op (some 16) none (.xt (.t 11) 0)), (.op (some 17) none (.xt (.t 11) 1)), (.op (some 3) none
  (.alloc 28 [(.int .i64 0), (.int .i64 0)])), (.op none none (.stn 2 (.t 3) (.t 16))), (.op (some 4) none (.mv (.t 17)))]) (.seq (.reg [(.op (some 18) none (.mv (.t 2))),
  (.op (some 19) none (.mv (.t 18))), (.op (some 20) (some (19, true)) (.mv (.t 4))), (.op (some 21) (some (19, true)) (.un .not (.t 20))), (.op (some 22) none (.pick (.t 19)
  (.t 21) (.c (.bool false)))), (.op (some 23) none (.mv (.t 22))), (.op (some 24) (some (23, true)) (.ldn 2 (.t 1))), (.op (some 25) (some (23, true)) (.build [(.int .i64 0),
  (.int .i64 0)] [(0, (1, (.c (.int .i64 0)))), (1, (1, (.c (.int .i64 4))))])), (.op (some 26) (some (23, true)) (.eqv (.agg [.int, .int]) false (.t 24) (.t 25))),
  (.op (some 27) none (.pick (.t 23) (.t 26) (.c (.bool false)))), (.op (some 0) none (.mv (.t 27)))]) .ret)))), [(.t 0)]⟩
def k13 : KFunc := ⟨32, (.seq (.reg [(.op (some 2) none (.mv (.c (.slice none 0 0))))]) (.seq (.reg [(.op (some 3) none (.mv (.c (.slice none 0 0))))]) (.seq
  (.reg [(.op (some 8) none (.call 48 [])), (.op (some 4) none (.mv (.t 8)))]) (.seq (.seq (.reg [(.op (some 9) none (.mv (.t 0))), (.op (some 10) none (.lenL (.t 9))),
  (.op (some 11) none (.mv (.c (.int .i64 0))))]) (.block 0 (.loop (.seq (.reg [(.op (some 12) none (.bin .lss (.t 11) (.t 10)))]) (.seq (.cond (.t 12) .skip (.exit 0)) (.seq
  (.block 1 (.seq (.reg [(.op (some 13) none (.mv (.t 11))), (.op (some 14) none (.iad 5 (.t 9) (.t 11))), (.op (some 15) none (.ldn 5 (.t 14))), (.op (some 6) none
  (.alloc 74 [(.int .i64 0), (.int .i64 0), (.int .i64 0), (.int .i64 0), (.string (bs []))])), (.op (some 5) none (.mv (.t 13))), (.op none none (.stn 5 (.t 6) (.t 15)))]) (.seq
  (.seq (.reg [(.op (some 16) none (.mv (.t 4))), (.op (some 17) none (.ldn 5 (.t 6))), (.op (some 18) none (.call 49 [(.t 16), (.t 17)])), (.op (some 7) none (.mv (.t 18)))])
  (.seq (.reg [(.op (some 19) none (.mv (.t 7))), (.op (some 20) none (.bin .neq (.t 19) (.c (.int .i64 0))))]) (.cond (.t 20) (.reg [(.op (some 21) none (.mv (.t 3))),
  (.op (some 22) none (.mv (.t 5))), (.op (some 23) none (.mv (.t 7))), (.op (some 24) none (.build [(.int .i64 0), (.int .i64 0)] [(0, (1, (.t 22))), (1, (1, (.t 23)))])),
  (.op (some 25) none (.bsl 28 1 [(.int .i64 0), (.int .i64 0)] [(0, (2, (.t 24)))])), (.op (some 26) none (.app 28 2 16 (.t 21) (.t 25))), (.op (some 3) none (.mv
  (.t 26)))]) .skip))) (.reg [(.op (some 27) none (.mv (.t 4))), (.op (some 28) none (.ldn 5 (.t 6))), (.op (some 29) none (.call 50 [(.t 27), (.t 28)]))]))))
  (.reg [(.op (some 30) none (.bin .add (.t 11) (.c (.int .i64 1)))), (.op (some 11) none (.mv (.t 30)))]))))))) (.seq (.reg [(.op (some 31) none (.mv (.t 3))), (.op (some 2) none
  (.mv (.t 31)))]) .ret))))), [(.t 2)]⟩
def k14 : KFunc := ⟨135, (.seq (.reg [(.op (some 4) none (.mv (.c (.int .i64 0))))]) (.seq (.reg [(.op (some 11) none (.mv (.t 0))), (.op (some 12) none (.mv (.t 1))),
  (.op (some 13) none (.iad 5 (.t 11) (.t 12))), (.op (some 14) none (.ldn 5 (.t 13))), (.op (some 5) none (.alloc 74 [(.int .i64 0), (.int .i64 0), (.int .i64 0), (.int .i64 0),
  (.string (bs []))])), (.op none none (.stn 5 (.t 5) (.t 14)))]) (.seq (.seq (.reg [(.op (some 15) none (.fad 0 (.t 5))), (.op (some 16) none (.ld (.t 15))), (.op (some 17) none
  (.bin .lss (.t 16) (.c (.int .i64 1)))), (.op (some 18) none (.mv (.t 17))), (.op (some 19) (some (18, false)) (.fad 0 (.t 5))), (.op (some 20) (some (18, false)) (.ld
  (.t 19))), (.op (some 21) (some (18, false)) (.bin .gtr (.t 20) (.c (.int .i64 4)))), (.op (some 22) none (.pick (.t 18) (.c (.bool true)) (.t 21))), (.op (some 23) none (.mv
  (.t 22))), (.op (some 24) (some (23, false)) (.fad 1 (.t 5))), (.op (some 25) (some (23, false)) (.ld (.t 24))), (.op (some 26) (some (23, false)) (.bin .lss (.t 25) (.c
  (.int .i64 1)))), (.op (some 27) none (.pick (.t 23) (.c (.bool true)) (.t 26))), (.op (some 28) none (.mv (.t 27))), (.op (some 29) (some (28, false)) (.fad 2 (.t 5))),
  (.op (some 30) (some (28, false)) (.ld (.t 29))), (.op (some 31) (some (28, false)) (.bin .lss (.t 30) (.c (.int .i64 1)))), (.op (some 32) none (.pick (.t 28) (.c (.bool true))
  (.t 31)))]) (.cond (.t 32) (.seq (.reg [(.op (some 4) none (.mv (.c (.int .i64 1))))]) .ret) .skip)) (.seq (.seq (.reg [(.op (some 6) none (.mv (.c (.int .i64 0))))]) (.block 0
  (.loop (.seq (.seq (.reg [(.op (some 33) none (.mv (.t 6))), (.op (some 34) none (.mv (.t 1))), (.op (some 35) none (.bin .lss (.t 33) (.t 34)))]) (.cond (.t 35) .skip
  (.exit 0))) (.seq (.block 1 (.seq (.reg [(.op (some 38) none (.mv (.t 0))), (.op (some 39) none (.mv (.t 6))), (.op (some 40) none (.iad 5 (.t 38) (.t 39))), (.op (some 41) none
  (.fad 1 (.t 40))), (.op (some 42) none (.ld (.t 41))), (.op (some 43) none (.fad 1 (.t 5))), (.op (some 44) none (.ld (.t 43))), (.op (some 45) none (.bin .eql (.t 42)
  (.t 44))), (.op (some 46) none (.mv (.t 45))), (.op (some 47) (some (46, true)) (.mv (.t 0))), (.op (some 48) (some (46, true)) (.mv (.t 6))), (.op (some 49) (some (46, true))
  (.iad 5 (.t 47) (.t 48))), (.op (some 50) (some (46, true)) (.fad 2 (.t 49))), (.op (some 51) (some (46, true)) (.ld (.t 50))), (.op (some 52) (some (46, true)) (.fad 2
  (.t 5))), (.op (some 53) (some (46, true)) (.ld (.t 52))), (.op (some 54) (some (46, true)) (.bin .gtr (.t 51) (.t 53))), (.op (some 55) none (.pick (.t 46) (.t 54) (.c
  (.bool false))))]) (.cond (.t 55) (.seq (.reg [(.op (some 4) none (.mv (.c (.int .i64 2))))]) .ret) .skip))) (.reg [(.op (some 36) none (.mv (.t 6))), (.op (some 37) none
  (.bin .add (.t 36) (.c (.int .i64 1)))), (.op (some 6) none (.mv (.t 37)))])))))) (.seq (.seq (.reg [(.op (some 7) none (.mv (.c (.int .i64 0))))]) (.block 2 (.loop (.seq (.seq
  (.reg [(.op (some 56) none (.mv (.t 7))), (.op (some 57) none (.mv (.t 1))), (.op (some 58) none (.bin .lss (.t 56) (.t 57)))]) (.cond (.t 58) .skip (.exit 2))) (.seq (.block 3
  (.seq (.reg [(.op (some 61) none (.mv (.t 0))), (.op (some 62) none (.mv (.t 7))), (.op (some 63) none (.iad 5 (.t 61) (.t 62))), (.op (some 64) none (.fad 1 (.t 63))),
  (.op (some 65) none (.ld (.t 64))), (.op (some 66) none (.fad 1 (.t 5))), (.op (some 67) none (.ld (.t 66))), (.op (some 68) none (.bin .eql (.t 65) (.t 67))),
  (.op (some 69) none (.mv (.t 68))), (.op (some 70) (some (69, true)) (.mv (.t 0))), (.op (some 71) (some (69, true)) (.mv (.t 7))), (.op (some 72) (some (69, true)) (.iad 5
  (.t 70) (.t 71))), (.op (some 73) (some (69, true)) (.fad 2 (.t 72))), (.op (some 74) (some (69, true)) (.ld (.t 73))), (.op (some 75) (some (69, true)) (.fad 2 (.t 5))),
  (.op (some 76) (some (69, true)) (.ld (.t 75))), (.op (some 77) (some (69, true)) (.bin .eql (.t 74) (.t 76))), (.op (some 78) none (.pick (.t 69) (.t 77) (.c (.bool false)))),
  (.op (some 79) none (.mv (.t 78))), (.op (some 80) (some (79, true)) (.mv (.t 0))), (.op (some 81) (some (79, true)) (.mv (.t 7))), (.op (some 82) (some (79, true)) (.iad 5
  (.t 80) (.t 81))), (.op (some 83) (some (79, true)) (.fad 0 (.t 82))), (.op (some 84) (some (79, true)) (.ld (.t 83))), (.op (some 85) (some (79, true)) (.bin .eql (.t 84) (.c
  (.int .i64 3)))), (.op (some 86) none (.pick (.t 79) (.t 85) (.c (.bool false))))]) (.cond (.t 86) (.seq (.reg [(.op (some 4) none (.mv (.c (.int .i64 3))))]) .ret) .skip)))
  (.reg [(.op (some 59) none (.mv (.t 7))), (.op (some 60) none (.bin .add (.t 59) (.c (.int .i64 1)))), (.op (some 7) none (.mv (.t 60)))])))))) (.seq (.seq
  (.reg [(.op (some 87) none (.fad 0 (.t 5))), (.op (some 88) none (.ld (.t 87))), (.op (some 89) none (.bin .neq (.t 88) (.c (.int .i64 2))))]) (.cond (.t 89) (.seq
  (.reg [(.op (some 4) none (.mv (.c (.int .i64 0))))]) .ret) .skip)) (.seq (.reg [(.op (some 8) none (.mv (.c (.int .i64 (-1)))))]) (.seq (.reg [(.op (some 9) none (.mv (.c
  (.bool false))))]) (.seq (.seq (.reg [(.op (some 10) none (.mv (.c (.int .i64 0))))]) (.block 4 (.loop (.seq (.seq (.reg [(.op (some 90) none (.mv (.t 10))), (.op (some 91) none
  (.mv (.t 1))), (.op (some 92) none (.bin .lss (.t 90) (.t 91)))]) (.cond (.t 92) .skip (.exit 4))) (.seq (.block 5 (.seq (.seq (.reg [(.op (some 95) none (.mv (.t 0))),
  (.op (some 96) none (.mv (.t 10))), (.op (some 97) none (.iad 5 (.t 95) (.t 96))), (.op (some 98) none (.ldn 5 (.t 97))), (.op (some 99) none (.ldn 5 (.t 5))),
  (.op (some 100) none (.call 51 [(.t 98), (.t 99)])), (.op (some 101) none (.mv (.t 100))), (.op (some 102) (some (101, true)) (.mv (.t 0))), (.op (some 103) (some (101, true))
  (.mv (.t 10))), (.op (some 104) (some (101, true)) (.iad 5 (.t 102) (.t 103))), (.op (some 105) (some (101, true)) (.fad 0 (.t 104))), (.op (some 106) (some (101, true)) (.ld
  (.t 105))), (.op (some 107) (some (101, true)) (.bin .eql (.t 106) (.c (.int .i64 1)))), (.op (some 108) none (.pick (.t 101) (.t 107) (.c (.bool false))))]) (.cond (.t 108)
  (.reg [(.op (some 109) none (.mv (.t 10))), (.op (some 8) none (.mv (.t 109)))]) .skip)) (.seq (.reg [(.op (some 110) none (.mv (.t 0))), (.op (some 111) none (.mv (.t 10))),
  (.op (some 112) none (.iad 5 (.t 110) (.t 111))), (.op (some 113) none (.ldn 5 (.t 112))), (.op (some 114) none (.ldn 5 (.t 5))), (.op (some 115) none (.call 51 [(.t 113),
  (.t 114)])), (.op (some 116) none (.mv (.t 115))), (.op (some 117) (some (116, true)) (.mv (.t 0))), (.op (some 118) (some (116, true)) (.mv (.t 10))),
  (.op (some 119) (some (116, true)) (.iad 5 (.t 117) (.t 118))), (.op (some 120) (some (116, true)) (.fad 0 (.t 119))), (.op (some 121) (some (116, true)) (.ld (.t 120))),
  (.op (some 122) (some (116, true)) (.bin .eql (.t 121) (.c (.int .i64 2)))), (.op (some 123) none (.pick (.t 116) (.t 122) (.c (.bool false))))]) (.cond (.t 123)
  (.reg [(.op (some 9) none (.mv (.c (.bool true))))]) .skip)))) (.reg [(.op (some 93) none (.mv (.t 10))), (.op (some 94) none (.bin .add (.t 93) (.c (.int .i64 1)))),
  (.op (some 10) none (.mv (.t 94)))])))))) (.seq (.seq (.reg [(.op (some 124) none (.mv (.t 8))), (.op (some 125) none (.bin .lss (.t 124) (.c (.int .i64 0))))]) (.cond (.t 125)
  (.seq (.reg [(.op (some 4) none (.mv (.c (.int .i64 4))))]) .ret) .skip)) (.seq (.seq (.reg [(.op (some 126) none (.mv (.t 0))), (.op (some 127) none (.mv (.t 8))),
  (.op (some 128) none (.iad 5 (.t 126) (.t 127))), (.op (some 129) none (.fad 4 (.t 128))), (.op (some 130) none (.ld (.t 129))), (.op (some 131) none (.fad 4 (.t 5))),
  (.op (some 132) none (.ld (.t 131))), (.op (some 133) none (.bin .neq (.t 130) (.t 132)))]) (.cond (.t 133) (.seq (.reg [(.op (some 4) none (.mv (.c
  (.int .i64 5))))]) .ret) .skip)) (.seq (.seq (.reg [(.op (some 134) none (.mv (.t 9)))]) (.cond (.t 134) (.seq (.reg [(.op (some 4) none (.mv (.c
  (.int .i64 6))))]) .ret) .skip)) (.seq (.reg [(.op (some 4) none (.mv (.c (.int .i64 0))))]) .ret))))))))))))), [(.t 4)]⟩
def k15 : KFunc := ⟨14, (.seq (.reg [(.op (some 2) none (.alloc 28 [(.int .i64 0), (.int .i64 0)])), (.op (some 3) none (.mv (.c (.bool false))))]) (.seq (.reg [(.op (some 5) none
  (.mv (.t 0))), (.op (some 6) none (.call 13 [(.t 5)])), (.op (some 4) none (.mv (.t 6)))]) (.seq (.seq (.reg [(.op (some 7) none (.mv (.t 4))), (.op (some 8) none (.lenL
  (.t 7))), (.op (some 9) none (.bin .eql (.t 8) (.c (.int .i64 0))))]) (.cond (.t 9) (.seq (.reg [(.op (some 10) none (.build [(.int .i64 0), (.int .i64 0)] [])), (.op none none
  (.stn 2 (.t 2) (.t 10))), (.op (some 3) none (.mv (.c (.bool false))))]) .ret) .skip)) (.seq (.reg [(.op (some 11) none (.mv (.t 4))), (.op (some 12) none (.iad 2 (.t 11) (.c
  (.int .i64 0)))), (.op (some 13) none (.ldn 2 (.t 12))), (.op none none (.stn 2 (.t 2) (.t 13))), (.op (some 3) none (.mv (.c (.bool true))))]) .ret)))), [(.cn 2 2), (.t 3)]⟩
def k48 : KFunc := ⟨7, (.seq (.reg [(.op (some 0) none (.mv (.c (.pointer none))))]) (.seq (.reg [(.op (some 1) none .mkm), (.op (some 2) none .mkm), (.op (some 3) none .mkm),
  (.op (some 4) none .mkm), (.op (some 5) none (.build [(.map none), (.map none), (.map none), (.map none)] [(0, (1, (.t 1))), (1, (1, (.t 2))), (2, (1, (.t 3))), (3, (1,
  (.t 4)))])), (.op (some 6) none (.box 121 (.t 5))), (.op (some 0) none (.mv (.t 6)))]) .ret)), [(.t 0)]⟩
def k49 : KFunc := ⟨53, (.seq (.reg [(.op (some 3) none (.box 74 (.t 1))), (.op (some 4) none (.mv (.c (.int .i64 0))))]) (.seq (.block 0 (.seq (.reg [(.op (some 6) none (.fad 0
  (.t 3))), (.op (some 7) none (.ld (.t 6))), (.op (some 8) none (.bin .lss (.t 7) (.c (.int .i64 1)))), (.op (some 9) none (.mv (.t 8))), (.op (some 10) (some (9, false)) (.fad 0
  (.t 3))), (.op (some 11) (some (9, false)) (.ld (.t 10))), (.op (some 12) (some (9, false)) (.bin .gtr (.t 11) (.c (.int .i64 4)))), (.op (some 13) none (.pick (.t 9) (.c
  (.bool true)) (.t 12))), (.op (some 14) none (.mv (.t 13))), (.op (some 15) (some (14, false)) (.fad 1 (.t 3))), (.op (some 16) (some (14, false)) (.ld (.t 15))),
  (.op (some 17) (some (14, false)) (.bin .lss (.t 16) (.c (.int .i64 1)))), (.op (some 18) none (.pick (.t 14) (.c (.bool true)) (.t 17))), (.op (some 19) none (.mv (.t 18))),
  (.op (some 20) (some (19, false)) (.fad 2 (.t 3))), (.op (some 21) (some (19, false)) (.ld (.t 20))), (.op (some 22) (some (19, false)) (.bin .lss (.t 21) (.c (.int .i64 1)))),
  (.op (some 23) none (.pick (.t 19) (.c (.bool true)) (.t 22))), (.op (some 5) none (.mv (.t 23)))]) (.cond (.t 5) (.seq (.reg [(.op (some 4) none (.mv (.c
  (.int .i64 1))))]) .ret) (.seq (.reg [(.op (some 25) none (.fad 2 (.t 3))), (.op (some 26) none (.ld (.t 25))), (.op (some 27) none (.mv (.t 0))), (.op (some 28) none (.nck
  (.t 27))), (.op (some 29) none (.fad 0 (.t 28))), (.op (some 30) none (.ld (.t 29))), (.op (some 31) none (.fad 1 (.t 3))), (.op (some 32) none (.ld (.t 31))),
  (.op (some 33) none (.lkp (.s .int) (.int .i64 0) false (.t 30) (.t 32))), (.op (some 34) none (.bin .lss (.t 26) (.t 33))), (.op (some 24) none (.mv (.t 34)))]) (.cond (.t 24)
  (.seq (.reg [(.op (some 4) none (.mv (.c (.int .i64 2))))]) .ret) (.seq (.reg [(.op (some 36) none (.mv (.t 0))), (.op (some 37) none (.nck (.t 36))), (.op (some 38) none
  (.fad 1 (.t 37))), (.op (some 39) none (.ld (.t 38))), (.op (some 40) none (.fad 1 (.t 3))), (.op (some 41) none (.ld (.t 40))), (.op (some 42) none (.fad 2 (.t 3))),
  (.op (some 43) none (.ld (.t 42))), (.op (some 44) none (.build [(.int .i64 0), (.int .i64 0)] [(0, (1, (.t 41))), (1, (1, (.t 43)))])), (.op (some 45) none (.lkp (.agg [.int,
  .int]) (.bool false) false (.t 39) (.t 44))), (.op (some 35) none (.mv (.t 45)))]) (.cond (.t 35) (.seq (.reg [(.op (some 4) none (.mv (.c (.int .i64 3))))]) .ret) (.seq
  (.reg [(.op (some 47) none (.fad 0 (.t 3))), (.op (some 48) none (.ld (.t 47))), (.op (some 49) none (.bin .eql (.t 48) (.c (.int .i64 2)))), (.op (some 46) none (.mv
  (.t 49)))]) (.cond (.t 46) (.seq (.reg [(.op (some 50) none (.mv (.t 0))), (.op (some 51) none (.ldn 5 (.t 3))), (.op (some 52) none (.call 80 [(.t 50), (.t 51)])),
  (.op (some 4) none (.mv (.t 52)))]) .ret) .skip))))))))) (.seq (.reg [(.op (some 4) none (.mv (.c (.int .i64 0))))]) .ret))), [(.t 4)]⟩
def k50 : KFunc := ⟨51, (.seq (.reg [(.op (some 3) none (.box 74 (.t 1)))]) (.seq (.reg [(.op (some 4) none (.mv (.t 0))), (.op (some 5) none (.nck (.t 4))), (.op (some 6) none
  (.fad 0 (.t 5))), (.op (some 7) none (.ld (.t 6))), (.op (some 8) none (.fad 1 (.t 3))), (.op (some 9) none (.ld (.t 8))), (.op (some 10) none (.mv (.t 0))), (.op (some 11) none
  (.nck (.t 10))), (.op (some 12) none (.fad 0 (.t 11))), (.op (some 13) none (.ld (.t 12))), (.op (some 14) none (.fad 1 (.t 3))), (.op (some 15) none (.ld (.t 14))),
  (.op (some 16) none (.lkp (.s .int) (.int .i64 0) false (.t 13) (.t 15))), (.op (some 17) none (.fad 2 (.t 3))), (.op (some 18) none (.ld (.t 17))), (.op (some 19) none (.mx
  (.t 16) [(.t 18)])), (.op none none (.mup (.s .int) (.t 7) (.t 9) (.t 19)))]) (.seq (.reg [(.op (some 20) none (.fad 0 (.t 3))), (.op (some 21) none (.ld (.t 20)))]) (.block 0
  (.seq (.reg [(.op (some 23) none (.bin .eql (.t 21) (.c (.int .i64 1)))), (.op (some 22) none (.mv (.t 23)))]) (.cond (.t 22) (.reg [(.op (some 24) none (.mv (.t 0))),
  (.op (some 25) none (.nck (.t 24))), (.op (some 26) none (.fad 2 (.t 25))), (.op (some 27) none (.ld (.t 26))), (.op (some 28) none (.ldn 5 (.t 3))), (.op (some 30) none (.fad 4
  (.t 3))), (.op (some 31) none (.ld (.t 30))), (.op (some 29) none (.call 81 [(.t 28)])), (.chk 27 none (.ld (.t 26))), (.chk 31 none (.ld (.t 30))), (.op none none (.mup
  (.agg [.int, .int, .int]) (.t 27) (.t 29) (.t 31)))]) (.seq (.reg [(.op (some 33) none (.bin .eql (.t 21) (.c (.int .i64 2)))), (.op (some 32) none (.mv (.t 33)))]) (.cond
  (.t 32) (.reg [(.op (some 34) none (.mv (.t 0))), (.op (some 35) none (.nck (.t 34))), (.op (some 36) none (.fad 3 (.t 35))), (.op (some 37) none (.ld (.t 36))),
  (.op (some 38) none (.ldn 5 (.t 3))), (.op (some 39) none (.call 81 [(.t 38)])), (.chk 37 none (.ld (.t 36))), (.op none none (.mup (.agg [.int, .int, .int]) (.t 37) (.t 39) (.c
  (.bool true))))]) (.seq (.reg [(.op (some 41) none (.bin .eql (.t 21) (.c (.int .i64 3)))), (.op (some 40) none (.mv (.t 41)))]) (.cond (.t 40) (.reg [(.op (some 42) none (.mv
  (.t 0))), (.op (some 43) none (.nck (.t 42))), (.op (some 44) none (.fad 1 (.t 43))), (.op (some 45) none (.ld (.t 44))), (.op (some 46) none (.fad 1 (.t 3))),
  (.op (some 47) none (.ld (.t 46))), (.op (some 48) none (.fad 2 (.t 3))), (.op (some 49) none (.ld (.t 48))), (.op (some 50) none (.build [(.int .i64 0), (.int .i64 0)] [(0, (1,
  (.t 47))), (1, (1, (.t 49)))])), (.op none none (.mup (.agg [.int, .int]) (.t 45) (.t 50) (.c (.bool true))))]) .skip)))))))))), []⟩
def k51 : KFunc := ⟨24, (.seq (.reg [(.op (some 2) none (.box 74 (.t 0))), (.op (some 3) none (.box 74 (.t 1))), (.op (some 4) none (.mv (.c (.bool false))))]) (.seq
  (.reg [(.op (some 5) none (.fad 1 (.t 2))), (.op (some 6) none (.ld (.t 5))), (.op (some 7) none (.fad 1 (.t 3))), (.op (some 8) none (.ld (.t 7))), (.op (some 9) none
  (.bin .eql (.t 6) (.t 8))), (.op (some 10) none (.mv (.t 9))), (.op (some 11) (some (10, true)) (.fad 2 (.t 2))), (.op (some 12) (some (10, true)) (.ld (.t 11))),
  (.op (some 13) (some (10, true)) (.fad 2 (.t 3))), (.op (some 14) (some (10, true)) (.ld (.t 13))), (.op (some 15) (some (10, true)) (.bin .eql (.t 12) (.t 14))),
  (.op (some 16) none (.pick (.t 10) (.t 15) (.c (.bool false)))), (.op (some 17) none (.mv (.t 16))), (.op (some 18) (some (17, true)) (.fad 3 (.t 2))), (.op (some 19) (some (17,
  true)) (.ld (.t 18))), (.op (some 20) (some (17, true)) (.fad 3 (.t 3))), (.op (some 21) (some (17, true)) (.ld (.t 20))), (.op (some 22) (some (17, true)) (.bin .eql (.t 19)
  (.t 21))), (.op (some 23) none (.pick (.t 17) (.t 22) (.c (.bool false)))), (.op (some 4) none (.mv (.t 23)))]) .ret)), [(.t 4)]⟩
def k80 : KFunc := ⟨33, (.seq (.reg [(.op (some 3) none (.box 74 (.t 1))), (.op (some 4) none (.mv (.c (.int .i64 0))))]) (.seq (.reg [(.op (some 8) none (.mv (.t 0))),
  (.op (some 9) none (.nck (.t 8))), (.op (some 10) none (.fad 2 (.t 9))), (.op (some 11) none (.ld (.t 10))), (.op (some 12) none (.ldn 5 (.t 3))), (.op (some 13) none
  (.call 81 [(.t 12)])), (.chk 11 none (.ld (.t 10))), (.op (some 14) none (.lkp (.agg [.int, .int, .int]) (.string (bs [])) true (.t 11) (.t 13))), (.op (some 7) none (.mv
  (.t 14))), (.op (some 15) none (.xt (.t 7) 0)), (.op (some 16) none (.xt (.t 7) 1)), (.op (some 5) none (.mv (.t 15))), (.op (some 6) none (.mv (.t 16)))]) (.seq (.block 0 (.seq
  (.reg [(.op (some 18) none (.mv (.t 6))), (.op (some 19) none (.un .not (.t 18))), (.op (some 17) none (.mv (.t 19)))]) (.cond (.t 17) (.seq (.reg [(.op (some 4) none (.mv (.c
  (.int .i64 4))))]) .ret) (.seq (.reg [(.op (some 21) none (.mv (.t 5))), (.op (some 22) none (.fad 4 (.t 3))), (.op (some 23) none (.ld (.t 22))), (.op (some 24) none (.bin .neq
  (.t 21) (.t 23))), (.op (some 20) none (.mv (.t 24)))]) (.cond (.t 20) (.seq (.reg [(.op (some 4) none (.mv (.c (.int .i64 5))))]) .ret) (.seq (.reg [(.op (some 26) none (.mv
  (.t 0))), (.op (some 27) none (.nck (.t 26))), (.op (some 28) none (.fad 3 (.t 27))), (.op (some 29) none (.ld (.t 28))), (.op (some 30) none (.ldn 5 (.t 3))),
  (.op (some 31) none (.call 81 [(.t 30)])), (.chk 29 none (.ld (.t 28))), (.op (some 32) none (.lkp (.agg [.int, .int, .int]) (.bool false) false (.t 29) (.t 31))),
  (.op (some 25) none (.mv (.t 32)))]) (.cond (.t 25) (.seq (.reg [(.op (some 4) none (.mv (.c (.int .i64 6))))]) .ret) .skip))))))) (.seq (.reg [(.op (some 4) none (.mv (.c
  (.int .i64 0))))]) .ret)))), [(.t 4)]⟩
def k81 : KFunc := ⟨10, (.seq (.reg [(.op (some 1) none (.box 74 (.t 0))), (.op (some 2) none (.alloc 123 [(.int .i64 0), (.int .i64 0), (.int .i64 0)]))]) (.seq
  (.reg [(.op (some 3) none (.fad 1 (.t 1))), (.op (some 4) none (.ld (.t 3))), (.op (some 5) none (.fad 2 (.t 1))), (.op (some 6) none (.ld (.t 5))), (.op (some 7) none (.fad 3
  (.t 1))), (.op (some 8) none (.ld (.t 7))), (.op (some 9) none (.build [(.int .i64 0), (.int .i64 0), (.int .i64 0)] [(0, (1, (.t 4))), (1, (1, (.t 6))), (2, (1, (.t 8)))])),
  (.op none none (.stn 3 (.t 2) (.t 9)))]) .ret)), [(.cn 2 3)]⟩
theorem c3 : okFunc Go.Proofs.Try.prog 3 = true ∧ ∃ fn, Go.Proofs.Try.prog.funcs[3]? = some fn ∧ cFunc Go.Proofs.Try.prog fn = some k3 := ⟨by kernel_rfl, Go.Proofs.Try.f3, Go.Proofs.Try.func3, by kernel_rfl⟩
theorem c12 : okFunc Go.Proofs.Try.prog 12 = true ∧ ∃ fn, Go.Proofs.Try.prog.funcs[12]? = some fn ∧ cFunc Go.Proofs.Try.prog fn = some k12 := ⟨by kernel_rfl, Go.Proofs.Try.f12, Go.Proofs.Try.func12, by kernel_rfl⟩
theorem c13 : okFunc Go.Proofs.Try.prog 13 = true ∧ ∃ fn, Go.Proofs.Try.prog.funcs[13]? = some fn ∧ cFunc Go.Proofs.Try.prog fn = some k13 := ⟨by kernel_rfl, Go.Proofs.Try.f13, Go.Proofs.Try.func13, by kernel_rfl⟩
theorem c14 : okFunc Go.Proofs.Try.prog 14 = true ∧ ∃ fn, Go.Proofs.Try.prog.funcs[14]? = some fn ∧ cFunc Go.Proofs.Try.prog fn = some k14 := ⟨by kernel_rfl, Go.Proofs.Try.f14, Go.Proofs.Try.func14, by kernel_rfl⟩
theorem c15 : okFunc Go.Proofs.Try.prog 15 = true ∧ ∃ fn, Go.Proofs.Try.prog.funcs[15]? = some fn ∧ cFunc Go.Proofs.Try.prog fn = some k15 := ⟨by kernel_rfl, Go.Proofs.Try.f15, Go.Proofs.Try.func15, by kernel_rfl⟩
theorem c48 : okFunc Go.Proofs.Try.prog 48 = true ∧ ∃ fn, Go.Proofs.Try.prog.funcs[48]? = some fn ∧ cFunc Go.Proofs.Try.prog fn = some k48 := ⟨by kernel_rfl, Go.Proofs.Try.f48, Go.Proofs.Try.func48, by kernel_rfl⟩
theorem c49 : okFunc Go.Proofs.Try.prog 49 = true ∧ ∃ fn, Go.Proofs.Try.prog.funcs[49]? = some fn ∧ cFunc Go.Proofs.Try.prog fn = some k49 := ⟨by kernel_rfl, Go.Proofs.Try.f49, Go.Proofs.Try.func49, by kernel_rfl⟩
theorem c50 : okFunc Go.Proofs.Try.prog 50 = true ∧ ∃ fn, Go.Proofs.Try.prog.funcs[50]? = some fn ∧ cFunc Go.Proofs.Try.prog fn = some k50 := ⟨by kernel_rfl, Go.Proofs.Try.f50, Go.Proofs.Try.func50, by kernel_rfl⟩
theorem c51 : okFunc Go.Proofs.Try.prog 51 = true ∧ ∃ fn, Go.Proofs.Try.prog.funcs[51]? = some fn ∧ cFunc Go.Proofs.Try.prog fn = some k51 := ⟨by kernel_rfl, Go.Proofs.Try.f51, Go.Proofs.Try.func51, by kernel_rfl⟩
theorem c80 : okFunc Go.Proofs.Try.prog 80 = true ∧ ∃ fn, Go.Proofs.Try.prog.funcs[80]? = some fn ∧ cFunc Go.Proofs.Try.prog fn = some k80 := ⟨by kernel_rfl, Go.Proofs.Try.f80, Go.Proofs.Try.func80, by kernel_rfl⟩
theorem c81 : okFunc Go.Proofs.Try.prog 81 = true ∧ ∃ fn, Go.Proofs.Try.prog.funcs[81]? = some fn ∧ cFunc Go.Proofs.Try.prog fn = some k81 := ⟨by kernel_rfl, Go.Proofs.Try.f81, Go.Proofs.Try.func81, by kernel_rfl⟩
def F : FuncId → Option KFunc
  | 3 => some k3
  | 12 => some k12
  | 13 => some k13
  | 14 => some k14
  | 15 => some k15
  | 48 => some k48
  | 49 => some k49
  | 50 => some k50
  | 51 => some k51
  | 80 => some k80
  | 81 => some k81
  | _ => none
def M : TypeId → String → Option (FuncId × Recv)
  | _, _ => none
theorem F_ok : ∀ f k, F f = some k → okFunc Go.Proofs.Try.prog f = true ∧ ∃ fn, Go.Proofs.Try.prog.funcs[f]? = some fn ∧ cFunc Go.Proofs.Try.prog fn = some k := by
  intro f k h
  unfold F at h
  split at h
  · cases h; exact c3
  · cases h; exact c12
  · cases h; exact c13
  · cases h; exact c14
  · cases h; exact c15
  · cases h; exact c48
  · cases h; exact c49
  · cases h; exact c50
  · cases h; exact c51
  · cases h; exact c80
  · cases h; exact c81
  · cases h
theorem M_ok : ∀ t n f r, M t n = some (f, r) → methOk Go.Proofs.Try.prog t n f r = true := by
  intro t n f r h
  unfold M at h
  split at h
  · cases h
end Go.Proofs.Ytccjanieihlpcaa.K
