/- The functions in K's language, each held against the given translation by the kernel. Printed by a program of this work (seat.py). -/
import Derived.Test.YtjgpbhodbgjggaaGreatKF3
import Derived.Test.YtjgpbhodbgjggaaGreatProg
set_option maxRecDepth 100000
set_option linter.unusedVariables false
namespace Go.Proofs.YtjgpbhodbgjggaaGreat.K
open Go Go.Proofs
def k8 : KFunc := ⟨125, (.seq (.reg [(.op (some 6) none (.mv (.c (.bool false))))]) (.seq (.seq (.reg [(.op (some 18) none (.call 22 [])), (.op (some 19) none (.un .not
  (.t 18)))]) (.cond (.t 19) (.seq (.reg [(.op (some 6) none (.mv (.c (.bool false))))]) .ret) .skip)) (.seq (.seq (.reg [(.op (some 20) none (.mv (.t 0))), (.op (some 21) none
  (.lenL (.t 20))), (.op (some 22) none (.bin .gtr (.t 21) (.c (.int .i64 20))))]) (.cond (.t 22) (.seq (.reg [(.op (some 6) none (.mv (.c (.bool true))))]) .ret) .skip)) (.seq
  (.reg [(.op (some 23) none (.mv (.t 1))), (.op (some 24) none (.mx (.t 23) [(.c (.int .i64 0))])), (.op (some 25) none (.mn (.t 24) [(.c (.int .i64 1048576))])),
  (.op (some 7) none (.mv (.t 25)))]) (.seq (.reg [(.op (some 8) none (.mv (.c (.string (bs [])))))]) (.seq (.reg [(.op (some 26) none (.mv (.t 1))), (.op (some 27) none (.mv
  (.t 2))), (.op (some 28) none (.call 26 [(.t 26), (.t 27)])), (.op (some 9) none (.mv (.t 28)))]) (.seq (.seq (.reg [(.op (some 29) none (.mv (.t 0))), (.op (some 30) none
  (.lenL (.t 29))), (.op (some 31) none (.mv (.c (.int .i64 0))))]) (.block 0 (.loop (.seq (.reg [(.op (some 32) none (.bin .lss (.t 31) (.t 30)))]) (.seq (.cond (.t 32) .skip
  (.exit 0)) (.seq (.block 1 (.seq (.reg [(.op (some 33) none (.iad 2 (.t 29) (.t 31))), (.op (some 34) none (.ldn 2 (.t 33))), (.op (some 11) none (.alloc 53 [(.int .i64 0),
  (.string (bs []))])), (.op none none (.stn 2 (.t 11) (.t 34)))]) (.seq (.seq (.reg [(.op (some 35) none (.fad 1 (.t 11))), (.op (some 36) none (.ld (.t 35))),
  (.op (some 37) none (.lenS (.t 36))), (.op (some 38) none (.bin .gtr (.t 37) (.c (.int .i64 60))))]) (.cond (.t 38) (.seq (.reg [(.op (some 6) none (.mv (.c
  (.bool true))))]) .ret) .skip)) (.seq (.reg [(.op (some 12) none (.mv (.c (.int .i64 0))))]) (.seq (.block 2 (.seq (.reg [(.op (some 44) none (.fad 0 (.t 11))),
  (.op (some 45) none (.ld (.t 44))), (.op (some 46) none (.mv (.t 8))), (.op (some 47) none (.lenS (.t 46))), (.op (some 48) none (.bin .neq (.t 45) (.t 47))),
  (.op (some 43) none (.mv (.t 48)))]) (.cond (.t 43) (.reg [(.op (some 12) none (.mv (.c (.int .i64 7))))]) (.seq (.reg [(.op (some 50) none (.mv (.t 8))), (.op (some 51) none
  (.lenS (.t 50))), (.op (some 52) none (.fad 1 (.t 11))), (.op (some 53) none (.ld (.t 52))), (.op (some 54) none (.lenS (.t 53))), (.op (some 55) none (.bin .add (.t 51)
  (.t 54))), (.op (some 56) none (.mv (.t 7))), (.op (some 57) none (.bin .gtr (.t 55) (.t 56))), (.op (some 49) none (.mv (.t 57)))]) (.cond (.t 49) (.reg [(.op (some 12) none
  (.mv (.c (.int .i64 5))))]) (.reg [(.op (some 39) none (.mv (.t 8))), (.op (some 40) none (.fad 1 (.t 11))), (.op (some 41) none (.ld (.t 40))), (.op (some 42) none (.bin .add
  (.t 39) (.t 41))), (.op (some 8) none (.mv (.t 42)))])))))) (.seq (.reg [(.op (some 58) none (.mv (.t 9))), (.op (some 59) none (.fad 0 (.t 11))), (.op (some 60) none (.ld
  (.t 59))), (.op (some 61) none (.fad 1 (.t 11))), (.op (some 62) none (.ld (.t 61))), (.op (some 63) none (.call 27 [(.t 58), (.t 60), (.t 62)])), (.op (some 64) none (.mv
  (.t 12))), (.op (some 65) none (.bin .neq (.t 63) (.t 64))), (.op (some 66) none (.mv (.t 65))), (.op (some 67) (some (66, false)) (.mv (.t 9))), (.op (some 68) (some (66,
  false)) (.call 28 [(.t 67)])), (.op (some 69) (some (66, false)) (.mv (.t 8))), (.op (some 70) (some (66, false)) (.lenS (.t 69))), (.op (some 71) (some (66, false)) (.bin .neq
  (.t 68) (.t 70))), (.op (some 72) none (.pick (.t 66) (.c (.bool true)) (.t 71)))]) (.cond (.t 72) (.seq (.reg [(.op (some 6) none (.mv (.c (.bool false))))]) .ret) .skip)))))))
  (.reg [(.op (some 73) none (.bin .add (.t 31) (.c (.int .i64 1)))), (.op (some 31) none (.mv (.t 73)))]))))))) (.seq (.reg [(.op (some 75) none (.mv (.t 9))),
  (.op (some 76) none (.call 29 [(.t 75)])), (.op (some 74) none (.mv (.t 76))), (.op (some 77) none (.xt (.t 74) 0)), (.op (some 78) none (.xt (.t 74) 1)), (.op (some 13) none
  (.mv (.t 77))), (.op (some 14) none (.mv (.t 78)))]) (.seq (.reg [(.op (some 15) none (.mv (.c (.pointer none))))]) (.seq (.reg [(.op (some 80) none (.mv (.t 15))),
  (.op (some 81) none (.call 29 [(.t 80)])), (.op (some 79) none (.mv (.t 81))), (.op (some 82) none (.xt (.t 79) 0)), (.op (some 83) none (.xt (.t 79) 1)), (.op (some 16) none
  (.mv (.t 82))), (.op (some 17) none (.mv (.t 83)))]) (.seq (.seq (.reg [(.op (some 84) none (.mv (.t 15))), (.op (some 85) none (.call 27 [(.t 84), (.c (.int .i64 0)), (.c
  (.string (bs [])))])), (.op (some 86) none (.bin .neq (.t 85) (.c (.int .i64 1)))), (.op (some 87) none (.mv (.t 86))), (.op (some 88) (some (87, false)) (.mv (.t 17))),
  (.op (some 89) (some (87, false)) (.bin .neq (.t 88) (.c (.int .i64 1)))), (.op (some 90) none (.pick (.t 87) (.c (.bool true)) (.t 89))), (.op (some 91) none (.mv (.t 90))),
  (.op (some 92) (some (91, false)) (.mv (.t 15))), (.op (some 93) (some (91, false)) (.call 28 [(.t 92)])), (.op (some 94) (some (91, false)) (.bin .neq (.t 93) (.c
  (.int .i64 0)))), (.op (some 95) none (.pick (.t 91) (.c (.bool true)) (.t 94)))]) (.cond (.t 95) (.seq (.reg [(.op (some 6) none (.mv (.c (.bool false))))]) .ret) .skip)) (.seq
  (.block 3 (.seq (.reg [(.op (some 97) none (.mv (.t 8))), (.op (some 98) none (.lenS (.t 97))), (.op (some 99) none (.mv (.t 7))), (.op (some 100) none (.bin .lss (.t 98)
  (.t 99))), (.op (some 96) none (.mv (.t 100)))]) (.cond (.t 96) (.seq (.reg [(.op (some 101) none (.mv (.t 13))), (.op (some 102) none (.bin .eql (.t 101) (.c
  (.string (bs []))))), (.op (some 103) none (.mv (.t 102))), (.op (some 104) (some (103, true)) (.mv (.t 14))), (.op (some 105) (some (103, true)) (.bin .eql (.t 104) (.c
  (.int .i64 3)))), (.op (some 106) none (.pick (.t 103) (.t 105) (.c (.bool false)))), (.op (some 6) none (.mv (.t 106)))]) .ret) (.seq (.reg [(.op (some 108) none (.mv (.t 8))),
  (.op (some 109) none (.call 30 [(.t 108)])), (.op (some 110) none (.mv (.t 2))), (.op (some 111) none (.bin .neq (.t 109) (.t 110))), (.op (some 107) none (.mv (.t 111)))])
  (.cond (.t 107) (.seq (.reg [(.op (some 112) none (.mv (.t 13))), (.op (some 113) none (.bin .eql (.t 112) (.c (.string (bs []))))), (.op (some 114) none (.mv (.t 113))),
  (.op (some 115) (some (114, true)) (.mv (.t 14))), (.op (some 116) (some (114, true)) (.bin .eql (.t 115) (.c (.int .i64 4)))), (.op (some 117) none (.pick (.t 114) (.t 116) (.c
  (.bool false)))), (.op (some 6) none (.mv (.t 117)))]) .ret) .skip))))) (.seq (.reg [(.op (some 118) none (.mv (.t 13))), (.op (some 119) none (.mv (.t 8))),
  (.op (some 120) none (.bin .eql (.t 118) (.t 119))), (.op (some 121) none (.mv (.t 120))), (.op (some 122) (some (121, true)) (.mv (.t 14))), (.op (some 123) (some (121, true))
  (.bin .eql (.t 122) (.c (.int .i64 0)))), (.op (some 124) none (.pick (.t 121) (.t 123) (.c (.bool false)))), (.op (some 6) none (.mv (.t 124)))]) .ret))))))))))))), [(.t 6)]⟩
def k15 : KFunc := ⟨46, (.seq (.reg [(.op (some 8) none (.mv (.c (.string (bs []))))), (.op (some 9) none (.mv (.c (.int .i64 0))))]) (.seq (.block 0 (.seq
  (.reg [(.op (some 13) none (.mv (.t 0))), (.op (some 14) none (.lenS (.t 13))), (.op (some 15) none (.bin .gtr (.t 14) (.c (.int .i64 512)))), (.op (some 16) none (.mv
  (.t 15))), (.op (some 17) (some (16, false)) (.mv (.t 1))), (.op (some 18) (some (16, false)) (.lenS (.t 17))), (.op (some 19) (some (16, false)) (.bin .gtr (.t 18) (.c
  (.int .i64 256)))), (.op (some 20) none (.pick (.t 16) (.c (.bool true)) (.t 19))), (.op (some 12) none (.mv (.t 20)))]) (.cond (.t 12) (.seq (.reg [(.op (some 8) none (.mv (.c
  (.string (bs []))))), (.op (some 9) none (.mv (.c (.int .i64 5))))]) .ret) (.seq (.reg [(.op (some 22) none (.mv (.t 2))), (.op (some 23) none (.bin .lss (.t 22) (.c
  (.int .i64 0)))), (.op (some 24) none (.mv (.t 23))), (.op (some 25) (some (24, false)) (.mv (.t 2))), (.op (some 26) (some (24, false)) (.bin .gtr (.t 25) (.c
  (.int .i64 1073741824)))), (.op (some 27) none (.pick (.t 24) (.c (.bool true)) (.t 26))), (.op (some 21) none (.mv (.t 27)))]) (.cond (.t 21) (.seq (.reg [(.op (some 8) none
  (.mv (.c (.string (bs []))))), (.op (some 9) none (.mv (.c (.int .i64 1))))]) .ret) .skip))))) (.seq (.reg [(.op (some 29) none (.mv (.t 0))), (.op (some 30) none (.mv (.t 1))),
  (.op (some 31) none (.mv (.t 3))), (.op (some 32) none (.call 47 [(.t 29), (.t 30), (.t 31)])), (.op (some 28) none (.mv (.t 32))), (.op (some 33) none (.xt (.t 28) 0)),
  (.op (some 34) none (.xt (.t 28) 1)), (.op (some 10) none (.mv (.t 33))), (.op (some 11) none (.mv (.t 34)))]) (.seq (.reg [(.op (some 35) none (.mv (.t 10))),
  (.op (some 36) none (.mv (.t 2))), (.op (some 37) none (.mv (.t 0))), (.op (some 38) none (.lenS (.t 37))), (.op (some 39) none (.mv (.t 0))), (.op (some 40) none
  (.call 48 [(.t 39)])), (.op (some 41) none (.build [(.int .i64 0), (.int .i64 0), (.int .i64 0), (.int .u64 0)] [(0, (1, (.t 35))), (1, (1, (.t 36))), (2, (1, (.t 38))), (3, (1,
  (.t 40)))])), (.op (some 42) none (.call 49 [(.t 41)])), (.op (some 43) none (.mv (.t 11))), (.op (some 44) none (.call 50 [(.t 42), (.t 43)])), (.op (some 45) none
  (.call 51 [(.t 44)])), (.op (some 8) none (.mv (.t 45))), (.op (some 9) none (.mv (.c (.int .i64 0))))]) .ret)))), [(.t 8), (.t 9)]⟩
def k16 : KFunc := ⟨49, (.seq (.reg [(.op (some 6) none (.mv (.c (.string (bs []))))), (.op (some 7) none (.mv (.c (.int .i64 0))))]) (.seq (.reg [(.op (some 13) none (.mv
  (.t 0))), (.op (some 14) none (.call 52 [(.t 13)])), (.op (some 8) none (.mv (.t 14)))]) (.seq (.reg [(.op (some 16) none (.mv (.t 8))), (.op (some 17) none
  (.call 53 [(.t 16)])), (.op (some 15) none (.mv (.t 17))), (.op (some 18) none (.xt (.t 15) 0)), (.op (some 19) none (.xt (.t 15) 1)), (.op (some 9) none
  (.alloc 79 [(.int .i64 0), (.int .i64 0), (.int .i64 0), (.int .u64 0)])), (.op none none (.stn 4 (.t 9) (.t 18))), (.op (some 10) none (.mv (.t 19)))]) (.seq (.seq
  (.reg [(.op (some 20) none (.mv (.t 10))), (.op (some 21) none (.bin .neq (.t 20) (.c (.int .i64 0))))]) (.cond (.t 21) (.seq (.reg [(.op (some 22) none (.mv (.t 10))),
  (.op (some 6) none (.mv (.c (.string (bs []))))), (.op (some 7) none (.mv (.t 22)))]) .ret) .skip)) (.seq (.seq (.reg [(.op (some 23) none (.fad 2 (.t 9))), (.op (some 24) none
  (.ld (.t 23))), (.op (some 25) none (.mv (.t 2))), (.op (some 26) none (.bin .gtr (.t 24) (.t 25))), (.op (some 27) none (.mv (.t 26))), (.op (some 28) (some (27, false))
  (.fad 2 (.t 9))), (.op (some 29) (some (27, false)) (.ld (.t 28))), (.op (some 30) (some (27, false)) (.bin .gtr (.t 29) (.c (.int .i64 512)))), (.op (some 31) none (.pick
  (.t 27) (.c (.bool true)) (.t 30)))]) (.cond (.t 31) (.seq (.reg [(.op (some 6) none (.mv (.c (.string (bs []))))), (.op (some 7) none (.mv (.c (.int .i64 5))))]) .ret) .skip))
  (.seq (.reg [(.op (some 33) none (.mv (.t 8))), (.op (some 34) none (.ldn 4 (.t 9))), (.op (some 35) none (.mv (.t 1))), (.op (some 36) none (.call 54 [(.t 33), (.t 34),
  (.t 35)])), (.op (some 32) none (.mv (.t 36))), (.op (some 37) none (.xt (.t 32) 0)), (.op (some 38) none (.xt (.t 32) 1)), (.op (some 11) none (.mv (.t 37))),
  (.op (some 12) none (.mv (.t 38)))]) (.seq (.block 0 (.seq (.reg [(.op (some 40) none (.mv (.t 12))), (.op (some 41) none (.un .not (.t 40))), (.op (some 39) none (.mv
  (.t 41)))]) (.cond (.t 39) (.seq (.reg [(.op (some 6) none (.mv (.c (.string (bs []))))), (.op (some 7) none (.mv (.c (.int .i64 3))))]) .ret) (.seq (.reg [(.op (some 43) none
  (.mv (.t 11))), (.op (some 45) none (.fad 3 (.t 9))), (.op (some 46) none (.ld (.t 45))), (.op (some 44) none (.call 48 [(.t 43)])), (.chk 46 none (.ld (.t 45))),
  (.op (some 47) none (.bin .neq (.t 44) (.t 46))), (.op (some 42) none (.mv (.t 47)))]) (.cond (.t 42) (.seq (.reg [(.op (some 6) none (.mv (.c (.string (bs []))))),
  (.op (some 7) none (.mv (.c (.int .i64 4))))]) .ret) .skip))))) (.seq (.reg [(.op (some 48) none (.mv (.t 11))), (.op (some 6) none (.mv (.t 48))), (.op (some 7) none (.mv (.c
  (.int .i64 0))))]) .ret)))))))), [(.t 6), (.t 7)]⟩
def k20 : KFunc := ⟨15, (.seq (.reg [(.op (some 2) none (.mv (.c (.int .i64 0)))), (.op (some 3) none (.mv (.c (.int .i64 0))))]) (.seq (.reg [(.op (some 7) none (.mv (.t 0))),
  (.op (some 8) none (.call 52 [(.t 7)])), (.op (some 9) none (.call 53 [(.t 8)])), (.op (some 6) none (.mv (.t 9))), (.op (some 10) none (.xt (.t 6) 0)), (.op (some 11) none (.xt
  (.t 6) 1)), (.op (some 4) none (.alloc 79 [(.int .i64 0), (.int .i64 0), (.int .i64 0), (.int .u64 0)])), (.op none none (.stn 4 (.t 4) (.t 10))), (.op (some 5) none (.mv
  (.t 11)))]) (.seq (.reg [(.op (some 12) none (.fad 1 (.t 4))), (.op (some 13) none (.ld (.t 12))), (.op (some 14) none (.mv (.t 5))), (.op (some 2) none (.mv (.t 13))),
  (.op (some 3) none (.mv (.t 14)))]) .ret))), [(.t 2), (.t 3)]⟩
def k22 : KFunc := ⟨51, (.seq (.reg [(.op (some 0) none (.mv (.c (.bool false))))]) (.seq (.reg [(.op (some 8) none (.bsl 9 1 [(.string (bs []))] [(0, (1, (.c (.string (bs [97,
  98, 99])))))])), (.op (some 9) none (.call 31 [(.t 8), (.c (.int .i64 1))])), (.op (some 7) none (.mv (.t 9))), (.op (some 10) none (.xt (.t 7) 0)), (.op (some 11) none (.xt
  (.t 7) 1)), (.op (some 1) none (.mv (.t 10))), (.op (some 2) none (.mv (.t 11)))]) (.seq (.reg [(.op (some 13) none (.mv (.t 1))), (.op (some 14) none (.call 23 [(.t 13)])),
  (.op (some 12) none (.mv (.t 14))), (.op (some 15) none (.xt (.t 12) 0)), (.op (some 16) none (.xt (.t 12) 1)), (.op (some 3) none (.mv (.t 15))), (.op (some 4) none (.mv
  (.t 16)))]) (.seq (.reg [(.op (some 18) none (.call 31 [(.c (.slice none 0 0)), (.c (.int .i64 1))])), (.op (some 17) none (.mv (.t 18))), (.op (some 19) none (.xt (.t 17) 0)),
  (.op (some 20) none (.xt (.t 17) 1)), (.op (some 5) none (.mv (.t 19))), (.op (some 6) none (.mv (.t 20)))]) (.seq (.reg [(.op (some 21) none (.mv (.t 2))), (.op (some 22) none
  (.bin .eql (.t 21) (.c (.int .i64 0)))), (.op (some 23) none (.mv (.t 22))), (.op (some 24) (some (23, true)) (.mv (.t 4))), (.op (some 25) (some (23, true)) (.bin .eql (.t 24)
  (.c (.int .i64 0)))), (.op (some 26) none (.pick (.t 23) (.t 25) (.c (.bool false)))), (.op (some 27) none (.mv (.t 26))), (.op (some 28) (some (27, true)) (.mv (.t 6))),
  (.op (some 29) (some (27, true)) (.bin .eql (.t 28) (.c (.int .i64 0)))), (.op (some 30) none (.pick (.t 27) (.t 29) (.c (.bool false)))), (.op (some 31) none (.mv (.t 30))),
  (.op (some 32) (some (31, true)) (.mv (.t 5))), (.op (some 33) (some (31, true)) (.bin .eql (.t 32) (.c (.string (bs [0]))))), (.op (some 34) none (.pick (.t 31) (.t 33) (.c
  (.bool false)))), (.op (some 35) none (.mv (.t 34))), (.op (some 36) (some (35, true)) (.mv (.t 3))), (.op (some 37) (some (35, true)) (.lenL (.t 36))),
  (.op (some 38) (some (35, true)) (.bin .eql (.t 37) (.c (.int .i64 1)))), (.op (some 39) none (.pick (.t 35) (.t 38) (.c (.bool false)))), (.op (some 40) none (.mv (.t 39))),
  (.op (some 41) (some (40, true)) (.mv (.t 3))), (.op (some 42) (some (40, true)) (.iad 1 (.t 41) (.c (.int .i64 0)))), (.op (some 43) (some (40, true)) (.ld (.t 42))),
  (.op (some 44) (some (40, true)) (.bin .eql (.t 43) (.c (.string (bs [97, 98, 99]))))), (.op (some 45) none (.pick (.t 40) (.t 44) (.c (.bool false)))), (.op (some 46) none (.mv
  (.t 45))), (.op (some 47) (some (46, true)) (.mv (.t 1))), (.op (some 48) (some (46, true)) (.lenS (.t 47))), (.op (some 49) (some (46, true)) (.bin .eql (.t 48) (.c
  (.int .i64 16)))), (.op (some 50) none (.pick (.t 46) (.t 49) (.c (.bool false)))), (.op (some 0) none (.mv (.t 50)))]) .ret))))), [(.t 0)]⟩
def k23 : KFunc := ⟨35, (.seq (.reg [(.op (some 2) none (.mv (.c (.slice none 0 0)))), (.op (some 3) none (.mv (.c (.int .i64 0))))]) (.seq (.reg [(.op (some 9) none (.mv
  (.t 0))), (.op (some 10) none (.call 52 [(.t 9)])), (.op (some 4) none (.mv (.t 10)))]) (.seq (.reg [(.op (some 11) none (.mv (.t 4))), (.op (some 12) none (.call 60 [(.t 11),
  (.c (.int .i64 400))])), (.op (some 5) none (.mv (.t 12)))]) (.seq (.seq (.reg [(.op (some 13) none (.mv (.t 4))), (.op (some 14) none (.call 61 [(.t 13)]))]) (.cond (.t 14)
  (.seq (.reg [(.op (some 2) none (.mv (.c (.slice none 0 0)))), (.op (some 3) none (.mv (.c (.int .i64 3))))]) .ret) .skip)) (.seq (.reg [(.op (some 6) none (.mv (.c
  (.slice none 0 0))))]) (.seq (.seq (.reg [(.op (some 15) none (.mv (.t 5))), (.op (some 16) none (.mv (.c (.int .i64 0))))]) (.block 0 (.loop (.seq (.reg [(.op (some 17) none
  (.bin .lss (.t 16) (.t 15)))]) (.seq (.cond (.t 17) .skip (.exit 0)) (.seq (.block 1 (.seq (.reg [(.op (some 19) none (.mv (.t 4))), (.op (some 20) none (.call 62 [(.t 19)])),
  (.op (some 18) none (.mv (.t 20))), (.op (some 21) none (.xt (.t 18) 0)), (.op (some 22) none (.xt (.t 18) 1)), (.op (some 7) none (.mv (.t 21))), (.op (some 8) none (.mv
  (.t 22)))]) (.seq (.seq (.reg [(.op (some 23) none (.mv (.t 8))), (.op (some 24) none (.bin .neq (.t 23) (.c (.int .i64 0))))]) (.cond (.t 24) (.seq (.reg [(.op (some 25) none
  (.mv (.t 8))), (.op (some 2) none (.mv (.c (.slice none 0 0)))), (.op (some 3) none (.mv (.t 25)))]) .ret) .skip)) (.reg [(.op (some 26) none (.mv (.t 6))), (.op (some 27) none
  (.mv (.t 7))), (.op (some 28) none (.bsl 9 1 [(.string (bs []))] [(0, (1, (.t 27)))])), (.op (some 29) none (.app 9 1 16 (.t 26) (.t 28))), (.op (some 6) none (.mv
  (.t 29)))])))) (.reg [(.op (some 30) none (.bin .add (.t 16) (.c (.int .i64 1)))), (.op (some 16) none (.mv (.t 30)))]))))))) (.seq (.seq (.reg [(.op (some 31) none (.mv
  (.t 4))), (.op (some 32) none (.call 63 [(.t 31)])), (.op (some 33) none (.un .not (.t 32)))]) (.cond (.t 33) (.seq (.reg [(.op (some 2) none (.mv (.c (.slice none 0 0)))),
  (.op (some 3) none (.mv (.c (.int .i64 3))))]) .ret) .skip)) (.seq (.reg [(.op (some 34) none (.mv (.t 6))), (.op (some 2) none (.mv (.t 34))), (.op (some 3) none (.mv (.c
  (.int .i64 0))))]) .ret)))))))), [(.t 2), (.t 3)]⟩
def k26 : KFunc := ⟨11, (.seq (.reg [(.op (some 4) none (.mv (.c (.pointer none))))]) (.seq (.reg [(.op (some 5) none (.mv (.t 0))), (.op (some 6) none (.mx (.t 5) [(.c
  (.int .i64 0))])), (.op (some 7) none (.mn (.t 6) [(.c (.int .i64 1048576))])), (.op (some 8) none (.mv (.t 1))), (.op (some 9) none (.build [(.int .i64 0), (.int .u64 0),
  (.slice none 0 0)] [(0, (1, (.t 7))), (1, (1, (.t 8)))])), (.op (some 10) none (.box 97 (.t 9))), (.op (some 4) none (.mv (.t 10)))]) .ret)), [(.t 4)]⟩
def k27 : KFunc := ⟨41, (.seq (.reg [(.op (some 6) none (.mv (.c (.int .i64 0))))]) (.seq (.block 0 (.seq (.reg [(.op (some 8) none (.mv (.t 0))), (.op (some 9) none
  (.eqv .ptr false (.t 8) (.c (.pointer none)))), (.op (some 7) none (.mv (.t 9)))]) (.cond (.t 7) (.seq (.reg [(.op (some 6) none (.mv (.c (.int .i64 1))))]) .ret) (.seq
  (.reg [(.op (some 11) none (.mv (.t 1))), (.op (some 12) none (.mv (.t 0))), (.op (some 13) none (.nck (.t 12))), (.op (some 14) none (.fad 2 (.t 13))), (.op (some 15) none (.ld
  (.t 14))), (.op (some 16) none (.lenL (.t 15))), (.op (some 17) none (.bin .neq (.t 11) (.t 16))), (.op (some 10) none (.mv (.t 17)))]) (.cond (.t 10) (.seq
  (.reg [(.op (some 6) none (.mv (.c (.int .i64 7))))]) .ret) (.seq (.reg [(.op (some 19) none (.mv (.t 2))), (.op (some 20) none (.lenS (.t 19))), (.op (some 21) none (.mv
  (.t 0))), (.op (some 22) none (.nck (.t 21))), (.op (some 23) none (.fad 0 (.t 22))), (.op (some 24) none (.ld (.t 23))), (.op (some 25) none (.mv (.t 0))), (.op (some 26) none
  (.nck (.t 25))), (.op (some 27) none (.fad 2 (.t 26))), (.op (some 28) none (.ld (.t 27))), (.op (some 29) none (.lenL (.t 28))), (.op (some 30) none (.bin .sub (.t 24)
  (.t 29))), (.op (some 31) none (.bin .gtr (.t 20) (.t 30))), (.op (some 18) none (.mv (.t 31)))]) (.cond (.t 18) (.seq (.reg [(.op (some 6) none (.mv (.c
  (.int .i64 5))))]) .ret) .skip))))))) (.seq (.reg [(.op (some 32) none (.mv (.t 0))), (.op (some 33) none (.mv (.t 0))), (.op (some 34) none (.nck (.t 33))), (.op (some 35) none
  (.fad 2 (.t 34))), (.op (some 36) none (.ld (.t 35))), (.op (some 37) none (.mv (.t 2))), (.op (some 38) none (.appS 5 (.t 36) (.t 37))), (.op (some 39) none (.nck (.t 32))),
  (.op (some 40) none (.fad 2 (.t 39))), (.op none none (.st (.t 40) (.t 38)))]) (.seq (.reg [(.op (some 6) none (.mv (.c (.int .i64 0))))]) .ret)))), [(.t 6)]⟩
def k28 : KFunc := ⟨10, (.seq (.reg [(.op (some 2) none (.mv (.c (.int .i64 0))))]) (.seq (.seq (.reg [(.op (some 3) none (.mv (.t 0))), (.op (some 4) none (.eqv .ptr false (.t 3)
  (.c (.pointer none))))]) (.cond (.t 4) (.seq (.reg [(.op (some 2) none (.mv (.c (.int .i64 0))))]) .ret) .skip)) (.seq (.reg [(.op (some 5) none (.mv (.t 0))),
  (.op (some 6) none (.nck (.t 5))), (.op (some 7) none (.fad 2 (.t 6))), (.op (some 8) none (.ld (.t 7))), (.op (some 9) none (.lenL (.t 8))), (.op (some 2) none (.mv
  (.t 9)))]) .ret))), [(.t 2)]⟩
def k29 : KFunc := ⟨35, (.seq (.reg [(.op (some 2) none (.mv (.c (.string (bs []))))), (.op (some 3) none (.mv (.c (.int .i64 0))))]) (.seq (.block 0 (.seq
  (.reg [(.op (some 5) none (.mv (.t 0))), (.op (some 6) none (.eqv .ptr false (.t 5) (.c (.pointer none)))), (.op (some 4) none (.mv (.t 6)))]) (.cond (.t 4) (.seq
  (.reg [(.op (some 2) none (.mv (.c (.string (bs []))))), (.op (some 3) none (.mv (.c (.int .i64 1))))]) .ret) (.seq (.reg [(.op (some 8) none (.mv (.t 0))), (.op (some 9) none
  (.nck (.t 8))), (.op (some 10) none (.fad 2 (.t 9))), (.op (some 11) none (.ld (.t 10))), (.op (some 12) none (.lenL (.t 11))), (.op (some 13) none (.mv (.t 0))),
  (.op (some 14) none (.nck (.t 13))), (.op (some 15) none (.fad 0 (.t 14))), (.op (some 16) none (.ld (.t 15))), (.op (some 17) none (.bin .lss (.t 12) (.t 16))),
  (.op (some 7) none (.mv (.t 17)))]) (.cond (.t 7) (.seq (.reg [(.op (some 2) none (.mv (.c (.string (bs []))))), (.op (some 3) none (.mv (.c (.int .i64 3))))]) .ret) (.seq
  (.reg [(.op (some 19) none (.mv (.t 0))), (.op (some 20) none (.nck (.t 19))), (.op (some 21) none (.fad 2 (.t 20))), (.op (some 22) none (.ld (.t 21))), (.op (some 23) none
  (.b2s 5 (.t 22))), (.op (some 25) none (.mv (.t 0))), (.op (some 26) none (.nck (.t 25))), (.op (some 27) none (.fad 1 (.t 26))), (.op (some 28) none (.ld (.t 27))),
  (.op (some 24) none (.call 48 [(.t 23)])), (.chk 28 none (.ld (.t 27))), (.op (some 29) none (.bin .neq (.t 24) (.t 28))), (.op (some 18) none (.mv (.t 29)))]) (.cond (.t 18)
  (.seq (.reg [(.op (some 2) none (.mv (.c (.string (bs []))))), (.op (some 3) none (.mv (.c (.int .i64 4))))]) .ret) .skip))))))) (.seq (.reg [(.op (some 30) none (.mv (.t 0))),
  (.op (some 31) none (.nck (.t 30))), (.op (some 32) none (.fad 2 (.t 31))), (.op (some 33) none (.ld (.t 32))), (.op (some 34) none (.b2s 5 (.t 33))), (.op (some 2) none (.mv
  (.t 34))), (.op (some 3) none (.mv (.c (.int .i64 0))))]) .ret))), [(.t 2), (.t 3)]⟩
def k30 : KFunc := ⟨34, (.seq (.reg [(.op (some 2) none (.mv (.c (.int .u64 0))))]) (.seq (.reg [(.op (some 3) none (.mv (.c (.int .u64 7640891576956012808))))]) (.seq (.seq
  (.reg [(.op (some 4) none (.mv (.c (.int .i64 0))))]) (.block 0 (.loop (.seq (.seq (.reg [(.op (some 5) none (.mv (.t 4))), (.op (some 6) none (.mv (.t 0))), (.op (some 7) none
  (.lenS (.t 6))), (.op (some 8) none (.bin .lss (.t 5) (.t 7)))]) (.cond (.t 8) .skip (.exit 0))) (.seq (.block 1 (.seq (.reg [(.op (some 11) none (.mv (.t 3))),
  (.op (some 12) none (.mv (.t 0))), (.op (some 13) none (.mv (.t 4))), (.op (some 14) none (.idS (.t 12) (.t 13))), (.op (some 15) none (.cvt .u64 (.t 14))), (.op (some 16) none
  (.bin .xor (.t 11) (.t 15))), (.op (some 3) none (.mv (.t 16)))]) (.seq (.reg [(.op (some 17) none (.mv (.t 3))), (.op (some 18) none (.bin .mul (.t 17) (.c
  (.int .u64 11400714819323198485)))), (.op (some 3) none (.mv (.t 18)))]) (.reg [(.op (some 19) none (.mv (.t 3))), (.op (some 20) none (.mv (.t 3))), (.op (some 21) none
  (.bin .quo (.t 20) (.c (.int .u64 536870912)))), (.op (some 22) none (.bin .xor (.t 19) (.t 21))), (.op (some 3) none (.mv (.t 22)))])))) (.reg [(.op (some 9) none (.mv
  (.t 4))), (.op (some 10) none (.bin .add (.t 9) (.c (.int .i64 1)))), (.op (some 4) none (.mv (.t 10)))])))))) (.seq (.reg [(.op (some 23) none (.mv (.t 3))),
  (.op (some 24) none (.mv (.t 0))), (.op (some 25) none (.lenS (.t 24))), (.op (some 26) none (.cvt .u64 (.t 25))), (.op (some 27) none (.bin .add (.t 23) (.t 26))),
  (.op (some 3) none (.mv (.t 27)))]) (.seq (.reg [(.op (some 28) none (.mv (.t 3))), (.op (some 29) none (.bin .mul (.t 28) (.c (.int .u64 13787848793156543929)))),
  (.op (some 3) none (.mv (.t 29)))]) (.seq (.reg [(.op (some 30) none (.mv (.t 3))), (.op (some 31) none (.mv (.t 3))), (.op (some 32) none (.bin .quo (.t 31) (.c
  (.int .u64 4294967296)))), (.op (some 33) none (.bin .xor (.t 30) (.t 32))), (.op (some 2) none (.mv (.t 33)))]) .ret)))))), [(.t 2)]⟩
def k31 : KFunc := ⟨37, (.seq (.reg [(.op (some 4) none (.mv (.c (.string (bs []))))), (.op (some 5) none (.mv (.c (.int .i64 0))))]) (.seq (.seq (.reg [(.op (some 11) none (.mv
  (.t 0))), (.op (some 12) none (.lenL (.t 11))), (.op (some 13) none (.bin .gtr (.t 12) (.c (.int .i64 400))))]) (.cond (.t 13) (.seq (.reg [(.op (some 4) none (.mv (.c
  (.string (bs []))))), (.op (some 5) none (.mv (.c (.int .i64 5))))]) .ret) .skip)) (.seq (.reg [(.op (some 6) none (.alloc 99 [(.slice none 0 0)]))]) (.seq
  (.reg [(.op (some 14) none (.mv (.t 0))), (.op (some 15) none (.lenL (.t 14))), (.op (some 16) none (.cvt .u64 (.t 15))), (.op (some 17) none (.call 64 [(.t 6), (.t 16)]))])
  (.seq (.seq (.reg [(.op (some 18) none (.mv (.t 0))), (.op (some 19) none (.lenL (.t 18))), (.op (some 20) none (.mv (.c (.int .i64 0))))]) (.block 0 (.loop (.seq
  (.reg [(.op (some 21) none (.bin .lss (.t 20) (.t 19)))]) (.seq (.cond (.t 21) .skip (.exit 0)) (.seq (.block 1 (.seq (.reg [(.op (some 22) none (.iad 1 (.t 18) (.t 20))),
  (.op (some 23) none (.ld (.t 22))), (.op (some 8) none (.mv (.t 23)))]) (.seq (.reg [(.op (some 25) none (.mv (.t 8))), (.op (some 26) none (.mv (.t 1))), (.op (some 27) none
  (.call 15 [(.t 25), (.c (.string (bs []))), (.c (.int .i64 0)), (.t 26)])), (.op (some 24) none (.mv (.t 27))), (.op (some 28) none (.xt (.t 24) 0)), (.op (some 29) none (.xt
  (.t 24) 1)), (.op (some 9) none (.mv (.t 28))), (.op (some 10) none (.mv (.t 29)))]) (.seq (.seq (.reg [(.op (some 30) none (.mv (.t 10))), (.op (some 31) none (.bin .neq
  (.t 30) (.c (.int .i64 0))))]) (.cond (.t 31) (.seq (.reg [(.op (some 32) none (.mv (.t 10))), (.op (some 4) none (.mv (.c (.string (bs []))))), (.op (some 5) none (.mv
  (.t 32)))]) .ret) .skip)) (.reg [(.op (some 33) none (.mv (.t 9))), (.op (some 34) none (.call 65 [(.t 6), (.t 33)]))]))))) (.reg [(.op (some 35) none (.bin .add (.t 20) (.c
  (.int .i64 1)))), (.op (some 20) none (.mv (.t 35)))]))))))) (.seq (.reg [(.op (some 36) none (.call 51 [(.t 6)])), (.op (some 4) none (.mv (.t 36))), (.op (some 5) none (.mv
  (.c (.int .i64 0))))]) .ret)))))), [(.t 4), (.t 5)]⟩
def k47 : KFunc := ⟨41, (.seq (.reg [(.op (some 6) none (.mv (.c (.int .i64 0)))), (.op (some 7) none (.mv (.c (.string (bs [])))))]) (.seq (.seq (.reg [(.op (some 12) none (.mv
  (.t 0))), (.op (some 13) none (.call 73 [(.t 12)]))]) (.cond (.t 13) (.seq (.reg [(.op (some 14) none (.mv (.t 0))), (.op (some 15) none (.slS (.t 14) none (some (.c
  (.int .i64 1))))), (.op (some 6) none (.mv (.c (.int .i64 1)))), (.op (some 7) none (.mv (.t 15)))]) .ret) .skip)) (.seq (.reg [(.op (some 16) none (.mv (.t 1))),
  (.op (some 17) none (.mv (.t 0))), (.op (some 18) none (.mv (.t 2))), (.op (some 19) none (.call 74 [(.t 16), (.t 17), (.t 18)])), (.op (some 8) none (.mv (.t 19)))]) (.seq
  (.reg [(.op (some 21) none (.mv (.t 8))), (.op (some 22) none (.call 75 [(.t 21)])), (.op (some 20) none (.mv (.t 22))), (.op (some 23) none (.xt (.t 20) 0)),
  (.op (some 24) none (.xt (.t 20) 1)), (.op (some 9) none (.mv (.t 23))), (.op (some 10) none (.mv (.t 24)))]) (.seq (.seq (.reg [(.op (some 25) none (.mv (.t 0))),
  (.op (some 26) none (.mv (.t 8))), (.op (some 27) none (.call 77 [(.t 25), (.t 26)])), (.op (some 28) none (.call 76 [(.t 27)])), (.op (some 29) none (.mv (.t 9))),
  (.op (some 30) none (.bin .add (.t 28) (.t 29))), (.op (some 11) none (.mv (.t 30)))]) (.seq (.reg [(.op (some 31) none (.mv (.t 10))), (.op (some 32) none (.mv (.t 31))),
  (.op (some 33) (some (32, true)) (.mv (.t 11))), (.op (some 34) (some (32, true)) (.lenS (.t 33))), (.op (some 35) (some (32, true)) (.mv (.t 0))), (.op (some 36) (some (32,
  true)) (.lenS (.t 35))), (.op (some 37) (some (32, true)) (.bin .lss (.t 34) (.t 36))), (.op (some 38) none (.pick (.t 32) (.t 37) (.c (.bool false))))]) (.cond (.t 38) (.seq
  (.reg [(.op (some 39) none (.mv (.t 11))), (.op (some 6) none (.mv (.c (.int .i64 2)))), (.op (some 7) none (.mv (.t 39)))]) .ret) .skip))) (.seq (.reg [(.op (some 40) none (.mv
  (.t 0))), (.op (some 6) none (.mv (.c (.int .i64 0)))), (.op (some 7) none (.mv (.t 40)))]) .ret)))))), [(.t 6), (.t 7)]⟩
def k48 : KFunc := ⟨7, (.seq (.reg [(.op (some 2) none (.mv (.c (.int .u64 0))))]) (.seq (.reg [(.op (some 3) none (.call 78 [])), (.op (some 4) none (.mv (.t 0))),
  (.op (some 5) none (.call 79 [(.t 3), (.t 4)])), (.op (some 6) none (.call 80 [(.t 5)])), (.op (some 2) none (.mv (.t 6)))]) .ret)), [(.t 2)]⟩
def k49 : KFunc := ⟨19, (.seq (.reg [(.op (some 1) none (.box 79 (.t 0))), (.op (some 2) none (.mv (.c (.pointer none))))]) (.seq (.reg [(.op (some 3) none
  (.alloc 99 [(.slice none 0 0)]))]) (.seq (.reg [(.op (some 4) none (.fad 0 (.t 1))), (.op (some 5) none (.ld (.t 4))), (.op (some 6) none (.cvt .u64 (.t 5))), (.op (some 8) none
  (.fad 1 (.t 1))), (.op (some 9) none (.ld (.t 8))), (.op (some 10) none (.cvt .u64 (.t 9))), (.op (some 12) none (.fad 2 (.t 1))), (.op (some 13) none (.ld (.t 12))),
  (.op (some 14) none (.cvt .u64 (.t 13))), (.op (some 16) none (.fad 3 (.t 1))), (.op (some 17) none (.ld (.t 16))), (.op (some 7) none (.call 81 [(.t 3), (.t 6), (.c
  (.int .i64 1))])), (.chk 9 none (.ld (.t 8))), (.chk 13 none (.ld (.t 12))), (.chk 17 none (.ld (.t 16))), (.op (some 11) none (.call 64 [(.t 7), (.t 10)])), (.chk 13 none (.ld
  (.t 12))), (.chk 17 none (.ld (.t 16))), (.op (some 15) none (.call 64 [(.t 11), (.t 14)])), (.chk 17 none (.ld (.t 16))), (.op (some 18) none (.call 81 [(.t 15), (.t 17), (.c
  (.int .i64 8))])), (.op (some 2) none (.mv (.t 18)))]) .ret))), [(.t 2)]⟩
def k50 : KFunc := ⟨17, (.seq (.reg [(.op (some 4) none (.mv (.c (.pointer none))))]) (.seq (.seq (.reg [(.op (some 5) none (.mv (.t 0))), (.op (some 6) none (.eqv .ptr false
  (.t 5) (.c (.pointer none))))]) (.cond (.t 6) (.seq (.reg [(.op (some 4) none (.mv (.c (.pointer none))))]) .ret) .skip)) (.seq (.reg [(.op (some 7) none (.mv (.t 0))),
  (.op (some 8) none (.mv (.t 0))), (.op (some 9) none (.nck (.t 8))), (.op (some 10) none (.fad 0 (.t 9))), (.op (some 11) none (.ld (.t 10))), (.op (some 12) none (.mv (.t 1))),
  (.op (some 13) none (.appS 5 (.t 11) (.t 12))), (.op (some 14) none (.nck (.t 7))), (.op (some 15) none (.fad 0 (.t 14))), (.op none none (.st (.t 15) (.t 13)))]) (.seq
  (.reg [(.op (some 16) none (.mv (.t 0))), (.op (some 4) none (.mv (.t 16)))]) .ret)))), [(.t 4)]⟩
def k51 : KFunc := ⟨10, (.seq (.reg [(.op (some 2) none (.mv (.c (.string (bs [])))))]) (.seq (.seq (.reg [(.op (some 3) none (.mv (.t 0))), (.op (some 4) none (.eqv .ptr false
  (.t 3) (.c (.pointer none))))]) (.cond (.t 4) (.seq (.reg [(.op (some 2) none (.mv (.c (.string (bs [])))))]) .ret) .skip)) (.seq (.reg [(.op (some 5) none (.mv (.t 0))),
  (.op (some 6) none (.nck (.t 5))), (.op (some 7) none (.fad 0 (.t 6))), (.op (some 8) none (.ld (.t 7))), (.op (some 9) none (.b2s 5 (.t 8))), (.op (some 2) none (.mv
  (.t 9)))]) .ret))), [(.t 2)]⟩
def k52 : KFunc := ⟨6, (.seq (.reg [(.op (some 2) none (.mv (.c (.pointer none))))]) (.seq (.reg [(.op (some 3) none (.mv (.t 0))), (.op (some 4) none (.build [(.string (bs [])),
  (.bool false)] [(0, (1, (.t 3)))])), (.op (some 5) none (.box 119 (.t 4))), (.op (some 2) none (.mv (.t 5)))]) .ret)), [(.t 2)]⟩
def k53 : KFunc := ⟨25, (.seq (.reg [(.op (some 2) none (.alloc 79 [(.int .i64 0), (.int .i64 0), (.int .i64 0), (.int .u64 0)])), (.op (some 3) none (.mv (.c (.int .i64 0))))])
  (.seq (.reg [(.op (some 5) none (.mv (.t 0))), (.op (some 6) none (.call 82 [(.t 5), (.c (.int .i64 1))])), (.op (some 7) none (.cvt .i64 (.t 6))), (.op (some 8) none (.mv
  (.t 0))), (.op (some 9) none (.call 60 [(.t 8), (.c (.int .i64 1073741824))])), (.op (some 10) none (.mv (.t 0))), (.op (some 11) none (.call 60 [(.t 10), (.c
  (.int .i64 1099511627776))])), (.op (some 12) none (.build [(.int .i64 0), (.int .i64 0), (.int .i64 0), (.int .u64 0)] [(0, (1, (.t 7))), (1, (1, (.t 9))), (2, (1,
  (.t 11)))])), (.op (some 4) none (.alloc 79 [(.int .i64 0), (.int .i64 0), (.int .i64 0), (.int .u64 0)])), (.op none none (.stn 4 (.t 4) (.t 12)))]) (.seq
  (.reg [(.op (some 13) none (.mv (.t 0))), (.op (some 14) none (.call 82 [(.t 13), (.c (.int .i64 8))])), (.op (some 15) none (.fad 3 (.t 4))), (.op none none (.st (.t 15)
  (.t 14)))]) (.seq (.seq (.reg [(.op (some 16) none (.mv (.t 0))), (.op (some 17) none (.call 61 [(.t 16)])), (.op (some 18) none (.mv (.t 17))), (.op (some 19) (some (18,
  false)) (.fad 0 (.t 4))), (.op (some 20) (some (18, false)) (.ld (.t 19))), (.op (some 21) (some (18, false)) (.bin .gtr (.t 20) (.c (.int .i64 2)))), (.op (some 22) none (.pick
  (.t 18) (.c (.bool true)) (.t 21)))]) (.cond (.t 22) (.seq (.reg [(.op (some 23) none (.build [(.int .i64 0), (.int .i64 0), (.int .i64 0), (.int .u64 0)] [])), (.op none none
  (.stn 4 (.t 2) (.t 23))), (.op (some 3) none (.mv (.c (.int .i64 3))))]) .ret) .skip)) (.seq (.reg [(.op (some 24) none (.ldn 4 (.t 4))), (.op none none (.stn 4 (.t 2)
  (.t 24))), (.op (some 3) none (.mv (.c (.int .i64 0))))]) .ret))))), [(.cn 2 4), (.t 3)]⟩
def k54 : KFunc := ⟨38, (.seq (.reg [(.op (some 4) none (.box 79 (.t 1))), (.op (some 6) none (.mv (.c (.string (bs []))))), (.op (some 7) none (.mv (.c (.bool false))))]) (.seq
  (.seq (.reg [(.op (some 10) none (.fad 0 (.t 4))), (.op (some 11) none (.ld (.t 10)))]) (.block 0 (.seq (.reg [(.op (some 13) none (.bin .eql (.t 11) (.c (.int .i64 0)))),
  (.op (some 12) none (.mv (.t 13)))]) (.cond (.t 12) (.seq (.reg [(.op (some 14) none (.mv (.t 0))), (.op (some 15) none (.fad 2 (.t 4))), (.op (some 16) none (.ld (.t 15))),
  (.op (some 17) none (.call 83 [(.t 14), (.t 16)])), (.op (some 8) none (.mv (.t 17)))]) (.seq (.reg [(.op (some 18) none (.mv (.t 8))), (.op (some 19) none (.mv (.t 0))),
  (.op (some 20) none (.call 63 [(.t 19)])), (.op (some 6) none (.mv (.t 18))), (.op (some 7) none (.mv (.t 20)))]) .ret)) (.seq (.reg [(.op (some 22) none (.bin .eql (.t 11) (.c
  (.int .i64 1)))), (.op (some 21) none (.mv (.t 22)))]) (.cond (.t 21) (.seq (.reg [(.op (some 23) none (.mv (.t 0))), (.op (some 24) none (.call 83 [(.t 23), (.c
  (.int .i64 1))])), (.op (some 9) none (.mv (.t 24)))]) (.seq (.reg [(.op (some 25) none (.mv (.t 9))), (.op (some 26) none (.fad 2 (.t 4))), (.op (some 27) none (.ld (.t 26))),
  (.op (some 28) none (.call 84 [(.t 25), (.t 27)])), (.op (some 29) none (.mv (.t 0))), (.op (some 30) none (.call 63 [(.t 29)])), (.op (some 6) none (.mv (.t 28))),
  (.op (some 7) none (.mv (.t 30)))]) .ret)) .skip)))))) (.seq (.reg [(.op (some 31) none (.mv (.t 0))), (.op (some 32) none (.mv (.t 2))), (.op (some 33) none (.fad 2 (.t 4))),
  (.op (some 34) none (.ld (.t 33))), (.op (some 35) none (.call 85 [(.t 31), (.t 32), (.t 34)])), (.op (some 36) none (.xt (.t 35) 0)), (.op (some 37) none (.xt (.t 35) 1)),
  (.op (some 6) none (.mv (.t 36))), (.op (some 7) none (.mv (.t 37)))]) .ret))), [(.t 6), (.t 7)]⟩
def k60 : KFunc := ⟨24, (.seq (.reg [(.op (some 4) none (.mv (.c (.int .i64 0))))]) (.seq (.reg [(.op (some 6) none (.mv (.t 0))), (.op (some 7) none (.call 89 [(.t 6)])),
  (.op (some 5) none (.mv (.t 7)))]) (.seq (.seq (.reg [(.op (some 8) none (.mv (.t 0))), (.op (some 9) none (.call 61 [(.t 8)])), (.op (some 10) none (.mv (.t 9))),
  (.op (some 11) (some (10, false)) (.mv (.t 1))), (.op (some 12) (some (10, false)) (.bin .lss (.t 11) (.c (.int .i64 0)))), (.op (some 13) none (.pick (.t 10) (.c (.bool true))
  (.t 12))), (.op (some 14) none (.mv (.t 13))), (.op (some 15) (some (14, false)) (.mv (.t 5))), (.op (some 16) (some (14, false)) (.mv (.t 1))), (.op (some 17) (some (14,
  false)) (.cvt .u64 (.t 16))), (.op (some 18) (some (14, false)) (.bin .gtr (.t 15) (.t 17))), (.op (some 19) none (.pick (.t 14) (.c (.bool true)) (.t 18)))]) (.cond (.t 19)
  (.seq (.reg [(.op (some 20) none (.mv (.t 0))), (.op (some 21) none (.call 90 [(.t 20)]))]) (.seq (.reg [(.op (some 4) none (.mv (.c (.int .i64 0))))]) .ret)) .skip)) (.seq
  (.reg [(.op (some 22) none (.mv (.t 5))), (.op (some 23) none (.cvt .i64 (.t 22))), (.op (some 4) none (.mv (.t 23)))]) .ret)))), [(.t 4)]⟩
def k61 : KFunc := ⟨11, (.seq (.reg [(.op (some 2) none (.mv (.c (.bool false))))]) (.seq (.reg [(.op (some 3) none (.mv (.t 0))), (.op (some 4) none (.eqv .ptr false (.t 3) (.c
  (.pointer none)))), (.op (some 5) none (.mv (.t 4))), (.op (some 6) (some (5, false)) (.mv (.t 0))), (.op (some 7) (some (5, false)) (.nck (.t 6))), (.op (some 8) (some (5,
  false)) (.fad 1 (.t 7))), (.op (some 9) (some (5, false)) (.ld (.t 8))), (.op (some 10) none (.pick (.t 5) (.c (.bool true)) (.t 9))), (.op (some 2) none (.mv
  (.t 10)))]) .ret)), [(.t 2)]⟩
def k62 : KFunc := ⟨29, (.seq (.reg [(.op (some 2) none (.mv (.c (.string (bs []))))), (.op (some 3) none (.mv (.c (.int .i64 0))))]) (.seq (.reg [(.op (some 9) none (.mv
  (.t 0))), (.op (some 10) none (.call 91 [(.t 9), (.c (.int .i64 600))])), (.op (some 4) none (.mv (.t 10)))]) (.seq (.seq (.reg [(.op (some 11) none (.mv (.t 0))),
  (.op (some 12) none (.call 61 [(.t 11)]))]) (.cond (.t 12) (.seq (.reg [(.op (some 2) none (.mv (.c (.string (bs []))))), (.op (some 3) none (.mv (.c
  (.int .i64 3))))]) .ret) .skip)) (.seq (.reg [(.op (some 14) none (.mv (.t 4))), (.op (some 15) none (.call 16 [(.t 14), (.c (.string (bs []))), (.c (.int .i64 512))])),
  (.op (some 13) none (.mv (.t 15))), (.op (some 16) none (.xt (.t 13) 0)), (.op (some 17) none (.xt (.t 13) 1)), (.op (some 5) none (.mv (.t 16))), (.op (some 6) none (.mv
  (.t 17)))]) (.seq (.seq (.reg [(.op (some 18) none (.mv (.t 6))), (.op (some 19) none (.bin .neq (.t 18) (.c (.int .i64 0))))]) (.cond (.t 19) (.seq (.reg [(.op (some 20) none
  (.mv (.t 6))), (.op (some 2) none (.mv (.c (.string (bs []))))), (.op (some 3) none (.mv (.t 20)))]) .ret) .skip)) (.seq (.seq (.reg [(.op (some 22) none (.mv (.t 4))),
  (.op (some 23) none (.call 20 [(.t 22)])), (.op (some 21) none (.mv (.t 23))), (.op (some 24) none (.xt (.t 21) 0)), (.op (some 25) none (.xt (.t 21) 1)), (.op (some 7) none
  (.mv (.t 24))), (.op (some 8) none (.mv (.t 25)))]) (.seq (.reg [(.op (some 26) none (.mv (.t 7))), (.op (some 27) none (.bin .neq (.t 26) (.c (.int .i64 0))))]) (.cond (.t 27)
  (.seq (.reg [(.op (some 2) none (.mv (.c (.string (bs []))))), (.op (some 3) none (.mv (.c (.int .i64 8))))]) .ret) .skip))) (.seq (.reg [(.op (some 28) none (.mv (.t 5))),
  (.op (some 2) none (.mv (.t 28))), (.op (some 3) none (.mv (.c (.int .i64 0))))]) .ret))))))), [(.t 2), (.t 3)]⟩
def k63 : KFunc := ⟨13, (.seq (.reg [(.op (some 2) none (.mv (.c (.bool false))))]) (.seq (.reg [(.op (some 3) none (.mv (.t 0))), (.op (some 4) none (.call 61 [(.t 3)])),
  (.op (some 5) none (.un .not (.t 4))), (.op (some 6) none (.mv (.t 5))), (.op (some 7) (some (6, true)) (.mv (.t 0))), (.op (some 8) (some (6, true)) (.nck (.t 7))),
  (.op (some 9) (some (6, true)) (.fad 0 (.t 8))), (.op (some 10) (some (6, true)) (.ld (.t 9))), (.op (some 11) (some (6, true)) (.bin .eql (.t 10) (.c (.string (bs []))))),
  (.op (some 12) none (.pick (.t 6) (.t 11) (.c (.bool false)))), (.op (some 2) none (.mv (.t 12)))]) .ret)), [(.t 2)]⟩
def k64 : KFunc := ⟨35, (.seq (.reg [(.op (some 4) none (.mv (.c (.pointer none))))]) (.seq (.seq (.reg [(.op (some 5) none (.mv (.t 0))), (.op (some 6) none (.eqv .ptr false
  (.t 5) (.c (.pointer none))))]) (.cond (.t 6) (.seq (.reg [(.op (some 4) none (.mv (.c (.pointer none))))]) .ret) .skip)) (.seq (.block 0 (.loop (.seq (.seq
  (.reg [(.op (some 7) none (.mv (.t 1))), (.op (some 8) none (.bin .gtr (.t 7) (.c (.int .u64 127))))]) (.cond (.t 8) .skip (.exit 0))) (.block 1 (.seq (.reg [(.op (some 9) none
  (.mv (.t 0))), (.op (some 10) none (.mv (.t 0))), (.op (some 11) none (.nck (.t 10))), (.op (some 12) none (.fad 0 (.t 11))), (.op (some 13) none (.ld (.t 12))),
  (.op (some 14) none (.mv (.t 1))), (.op (some 15) none (.cvt .u8 (.t 14))), (.op (some 16) none (.bin .or (.t 15) (.c (.int .u8 128)))), (.op (some 17) none
  (.bsl 5 1 [(.int .u8 0)] [(0, (1, (.t 16)))])), (.op (some 18) none (.app 5 1 1 (.t 13) (.t 17))), (.op (some 19) none (.nck (.t 9))), (.op (some 20) none (.fad 0 (.t 19))),
  (.op none none (.st (.t 20) (.t 18)))]) (.reg [(.op (some 21) none (.mv (.t 1))), (.op (some 22) none (.bin .shr (.t 21) (.c (.int .u64 7)))), (.op (some 1) none (.mv
  (.t 22)))])))))) (.seq (.reg [(.op (some 23) none (.mv (.t 0))), (.op (some 24) none (.mv (.t 0))), (.op (some 25) none (.nck (.t 24))), (.op (some 26) none (.fad 0 (.t 25))),
  (.op (some 27) none (.ld (.t 26))), (.op (some 28) none (.mv (.t 1))), (.op (some 29) none (.cvt .u8 (.t 28))), (.op (some 30) none (.bsl 5 1 [(.int .u8 0)] [(0, (1,
  (.t 29)))])), (.op (some 31) none (.app 5 1 1 (.t 27) (.t 30))), (.op (some 32) none (.nck (.t 23))), (.op (some 33) none (.fad 0 (.t 32))), (.op none none (.st (.t 33)
  (.t 31)))]) (.seq (.reg [(.op (some 34) none (.mv (.t 0))), (.op (some 4) none (.mv (.t 34)))]) .ret))))), [(.t 4)]⟩
def k65 : KFunc := ⟨12, (.seq (.reg [(.op (some 4) none (.mv (.c (.pointer none))))]) (.seq (.reg [(.op (some 5) none (.mv (.t 0))), (.op (some 6) none (.mv (.t 1))),
  (.op (some 7) none (.lenS (.t 6))), (.op (some 8) none (.cvt .u64 (.t 7))), (.op (some 9) none (.call 64 [(.t 5), (.t 8)])), (.op (some 10) none (.mv (.t 1))),
  (.op (some 11) none (.call 50 [(.t 9), (.t 10)])), (.op (some 4) none (.mv (.t 11)))]) .ret)), [(.t 4)]⟩
def k73 : KFunc := ⟨14, (.seq (.reg [(.op (some 2) none (.mv (.c (.bool false))))]) (.seq (.reg [(.op (some 3) none (.mv (.t 0))), (.op (some 4) none (.bin .neq (.t 3) (.c
  (.string (bs []))))), (.op (some 5) none (.mv (.t 4))), (.op (some 6) (some (5, true)) (.mv (.t 0))), (.op (some 7) (some (5, true)) (.mv (.t 0))), (.op (some 8) (some (5,
  true)) (.slS (.t 7) none (some (.c (.int .i64 1))))), (.op (some 9) (some (5, true)) (.mv (.t 0))), (.op (some 10) (some (5, true)) (.lenS (.t 9))), (.op (some 11) (some (5,
  true)) (.call 84 [(.t 8), (.t 10)])), (.op (some 12) (some (5, true)) (.bin .eql (.t 6) (.t 11))), (.op (some 13) none (.pick (.t 5) (.t 12) (.c (.bool false)))),
  (.op (some 2) none (.mv (.t 13)))]) .ret)), [(.t 2)]⟩
def k74 : KFunc := ⟨90, (.seq (.reg [(.op (some 6) none (.mv (.c (.slice none 0 0))))]) (.seq (.reg [(.op (some 16) none (.mv (.t 2))), (.op (some 17) none (.call 101 [(.t 16)])),
  (.op (some 2) none (.mv (.t 17)))]) (.seq (.reg [(.op (some 18) none (.mv (.t 2))), (.op (some 19) none (.call 102 [(.t 18)])), (.op (some 7) none (.mv (.t 19)))]) (.seq (.seq
  (.reg [(.op (some 20) none (.mv (.t 7))), (.op (some 21) none (.bin .eql (.t 20) (.c (.int .i64 0))))]) (.cond (.t 21) (.seq (.reg [(.op (some 6) none (.mv (.c
  (.slice none 0 0))))]) .ret) .skip)) (.seq (.reg [(.op (some 22) none (.mv (.t 0))), (.op (some 24) none (.mv (.t 1))), (.op (some 25) none (.mv (.t 1))), (.op (some 26) none
  (.lenS (.t 25))), (.op (some 27) none (.mn (.t 26) [(.c (.int .i64 600))])), (.op (some 28) none (.slS (.t 24) none (some (.t 27)))), (.op (some 23) none (.call 103 [(.t 22),
  (.c (.int .i64 600))])), (.op (some 0) none (.mv (.t 23))), (.op (some 1) none (.mv (.t 28)))]) (.seq (.reg [(.op (some 29) none (.mv (.t 0))), (.op (some 30) none (.mv
  (.t 1))), (.op (some 31) none (.bin .add (.t 29) (.t 30))), (.op (some 8) none (.mv (.t 31)))]) (.seq (.reg [(.op (some 32) none (.mv (.t 8))), (.op (some 33) none
  (.call 104 [(.t 32)])), (.op (some 9) none (.mv (.t 33)))]) (.seq (.seq (.reg [(.op (some 34) none (.mv (.t 0))), (.op (some 35) none (.lenS (.t 34))), (.op (some 36) none (.mv
  (.c (.int .i64 0))))]) (.block 0 (.loop (.seq (.reg [(.op (some 37) none (.bin .lss (.t 36) (.t 35)))]) (.seq (.cond (.t 37) .skip (.exit 0)) (.seq (.block 1 (.seq
  (.reg [(.op (some 38) none (.mv (.t 36))), (.op (some 10) none (.mv (.t 38)))]) (.reg [(.op (some 39) none (.mv (.t 9))), (.op (some 40) none (.mv (.t 10))), (.op (some 41) none
  (.call 105 [(.t 39), (.t 40)]))]))) (.reg [(.op (some 42) none (.bin .add (.t 36) (.c (.int .i64 1)))), (.op (some 36) none (.mv (.t 42)))]))))))) (.seq
  (.reg [(.op (some 11) none (.mv (.c (.slice none 0 0))))]) (.seq (.reg [(.op (some 12) none (.mv (.c (.int .i64 0))))]) (.seq (.seq (.reg [(.op (some 43) none (.mv (.t 0))),
  (.op (some 44) none (.lenS (.t 43))), (.op (some 13) none (.mv (.t 44)))]) (.block 2 (.loop (.seq (.seq (.reg [(.op (some 45) none (.mv (.t 13))), (.op (some 46) none (.mv
  (.t 8))), (.op (some 47) none (.lenS (.t 46))), (.op (some 48) none (.bin .lss (.t 45) (.t 47)))]) (.cond (.t 48) .skip (.exit 2))) (.block 3 (.seq (.reg [(.op (some 50) none
  (.mv (.t 9))), (.op (some 51) none (.mv (.t 13))), (.op (some 52) none (.mv (.t 7))), (.op (some 53) none (.call 106 [(.t 50), (.t 51), (.t 52)])), (.op (some 49) none (.mv
  (.t 53))), (.op (some 54) none (.xt (.t 49) 0)), (.op (some 55) none (.xt (.t 49) 1)), (.op (some 14) none (.mv (.t 54))), (.op (some 15) none (.mv (.t 55)))]) (.seq
  (.reg [(.op (some 56) none (.mv (.t 9))), (.op (some 57) none (.mv (.t 13))), (.op (some 58) none (.call 105 [(.t 56), (.t 57)]))]) (.seq (.seq (.reg [(.op (some 59) none (.mv
  (.t 15))), (.op (some 60) none (.bin .eql (.t 59) (.c (.int .i64 0)))), (.op (some 61) none (.mv (.t 60))), (.op (some 62) (some (61, false)) (.mv (.t 9))),
  (.op (some 63) (some (61, false)) (.mv (.t 13))), (.op (some 64) (some (61, false)) (.mv (.t 7))), (.op (some 65) (some (61, false)) (.mv (.t 15))), (.op (some 66) (some (61,
  false)) (.mv (.t 2))), (.op (some 67) (some (61, false)) (.call 107 [(.t 62), (.t 63), (.t 64), (.t 65), (.t 66)])), (.op (some 68) none (.pick (.t 61) (.c (.bool true))
  (.t 67)))]) (.cond (.t 68) (.seq (.reg [(.op (some 69) none (.mv (.t 12))), (.op (some 70) none (.bin .add (.t 69) (.c (.int .i64 1)))), (.op (some 12) none (.mv (.t 70)))])
  (.seq (.reg [(.op (some 71) none (.mv (.t 13))), (.op (some 72) none (.bin .add (.t 71) (.c (.int .i64 1)))), (.op (some 13) none (.mv (.t 72)))]) (.exit 3))) .skip)) (.seq
  (.reg [(.op (some 73) none (.mv (.t 11))), (.op (some 74) none (.mv (.t 12))), (.op (some 75) none (.mv (.t 15))), (.op (some 76) none (.mv (.t 14))), (.op (some 77) none
  (.build [(.int .i64 0), (.int .i64 0), (.int .i64 0)] [(0, (1, (.t 74))), (1, (1, (.t 75))), (2, (1, (.t 76)))])), (.op (some 78) none (.bsl 155 1 [(.int .i64 0), (.int .i64 0),
  (.int .i64 0)] [(0, (3, (.t 77)))])), (.op (some 79) none (.app 155 3 24 (.t 73) (.t 78))), (.op (some 11) none (.mv (.t 79)))]) (.seq (.reg [(.op (some 12) none (.mv (.c
  (.int .i64 0))))]) (.seq (.reg [(.op (some 80) none (.mv (.t 15))), (.op (some 81) none (.mv (.c (.int .i64 0))))]) (.block 4 (.loop (.seq (.reg [(.op (some 82) none (.bin .lss
  (.t 81) (.t 80)))]) (.seq (.cond (.t 82) .skip (.exit 4)) (.seq (.block 5 (.seq (.reg [(.op (some 83) none (.mv (.t 9))), (.op (some 84) none (.mv (.t 13))), (.op (some 85) none
  (.call 105 [(.t 83), (.t 84)]))]) (.reg [(.op (some 86) none (.mv (.t 13))), (.op (some 87) none (.bin .add (.t 86) (.c (.int .i64 1)))), (.op (some 13) none (.mv (.t 87)))])))
  (.reg [(.op (some 88) none (.bin .add (.t 81) (.c (.int .i64 1)))), (.op (some 81) none (.mv (.t 88)))]))))))))))))))))) (.seq (.reg [(.op (some 89) none (.mv (.t 11))),
  (.op (some 6) none (.mv (.t 89)))]) .ret)))))))))))), [(.t 6)]⟩
def k75 : KFunc := ⟨89, (.seq (.reg [(.op (some 2) none (.mv (.c (.string (bs []))))), (.op (some 3) none (.mv (.c (.bool false))))]) (.seq (.seq (.reg [(.op (some 21) none (.mv
  (.t 0))), (.op (some 22) none (.lenL (.t 21))), (.op (some 23) none (.bin .gtr (.t 22) (.c (.int .i64 1000))))]) (.cond (.t 23) (.seq (.reg [(.op (some 2) none (.mv (.c
  (.string (bs []))))), (.op (some 3) none (.mv (.c (.bool false))))]) .ret) .skip)) (.seq (.reg [(.op (some 4) none (.alloc 99 [(.slice none 0 0)]))]) (.seq
  (.reg [(.op (some 24) none (.mv (.t 0))), (.op (some 25) none (.lenL (.t 24))), (.op (some 26) none (.cvt .u64 (.t 25))), (.op (some 27) none (.call 64 [(.t 4), (.t 26)]))])
  (.seq (.seq (.reg [(.op (some 28) none (.mv (.t 0))), (.op (some 29) none (.lenL (.t 28))), (.op (some 30) none (.bin .eql (.t 29) (.c (.int .i64 0))))]) (.cond (.t 30) (.seq
  (.reg [(.op (some 31) none (.call 51 [(.t 4)])), (.op (some 2) none (.mv (.t 31))), (.op (some 3) none (.mv (.c (.bool true))))]) .ret) .skip)) (.seq (.reg [(.op (some 5) none
  (.alloc 95 [(.slice none 0 0), (.slice none 0 0), (.slice none 0 0)]))]) (.seq (.reg [(.op (some 6) none (.alloc 158 [(.slice none 0 0), (.int .i64 0)]))]) (.seq
  (.reg [(.op (some 32) none (.call 108 [])), (.op (some 7) none (.alloc 3 [(.int .i64 0), (.int .i64 0), (.int .i64 0)])), (.op none none (.stn 3 (.t 7) (.t 32)))]) (.seq (.seq
  (.reg [(.op (some 33) none (.mv (.t 0))), (.op (some 34) none (.lenL (.t 33))), (.op (some 35) none (.mv (.c (.int .i64 0))))]) (.block 0 (.loop (.seq (.reg [(.op (some 36) none
  (.bin .lss (.t 35) (.t 34)))]) (.seq (.cond (.t 36) .skip (.exit 0)) (.seq (.block 1 (.seq (.reg [(.op (some 37) none (.iad 3 (.t 33) (.t 35))), (.op (some 38) none (.ldn 3
  (.t 37))), (.op (some 9) none (.alloc 155 [(.int .i64 0), (.int .i64 0), (.int .i64 0)])), (.op none none (.stn 3 (.t 9) (.t 38)))]) (.seq (.reg [(.op (some 40) none (.ldn 3
  (.t 9))), (.op (some 41) none (.ldn 3 (.t 7))), (.op (some 42) none (.call 109 [(.t 40), (.t 41)])), (.op (some 39) none (.mv (.t 42))), (.op (some 43) none (.xt (.t 39) 0)),
  (.op (some 44) none (.xt (.t 39) 1)), (.op (some 45) none (.xt (.t 39) 2)), (.op (some 10) none (.alloc 3 [(.int .i64 0), (.int .i64 0), (.int .i64 0)])), (.op (some 11) none
  (.alloc 3 [(.int .i64 0), (.int .i64 0), (.int .i64 0)])), (.op none none (.stn 3 (.t 10) (.t 43))), (.op none none (.stn 3 (.t 11) (.t 44))), (.op (some 12) none (.mv
  (.t 45)))]) (.seq (.seq (.reg [(.op (some 46) none (.mv (.t 12))), (.op (some 47) none (.un .not (.t 46)))]) (.cond (.t 47) (.seq (.reg [(.op (some 2) none (.mv (.c
  (.string (bs []))))), (.op (some 3) none (.mv (.c (.bool false))))]) .ret) .skip)) (.seq (.seq (.reg [(.op (some 48) none (.ldn 3 (.t 10))), (.op (some 49) none (.mv (.c
  (.int .i64 0))))]) (.block 2 (.loop (.seq (.reg [(.op (some 50) none (.bin .lss (.t 49) (.c (.int .i64 3))))]) (.seq (.cond (.t 50) .skip (.exit 2)) (.seq (.block 3 (.seq
  (.reg [(.op (some 51) none (.mv (.t 49))), (.op (some 52) none (.ida 3 (.t 48) (.t 49))), (.op (some 13) none (.mv (.t 51))), (.op (some 14) none (.mv (.t 52)))]) (.seq
  (.reg [(.op (some 54) none (.mv (.t 14))), (.op (some 55) none (.call 110 [(.t 54)])), (.op (some 53) none (.mv (.t 55))), (.op (some 56) none (.xt (.t 53) 0)),
  (.op (some 57) none (.xt (.t 53) 1)), (.op (some 58) none (.xt (.t 53) 2)), (.op (some 59) none (.xt (.t 53) 3)), (.op (some 15) none (.mv (.t 56))), (.op (some 16) none (.mv
  (.t 57))), (.op (some 17) none (.mv (.t 58))), (.op (some 18) none (.mv (.t 59)))]) (.seq (.seq (.reg [(.op (some 60) none (.mv (.t 18))), (.op (some 61) none (.un .not
  (.t 60)))]) (.cond (.t 61) (.seq (.reg [(.op (some 2) none (.mv (.c (.string (bs []))))), (.op (some 3) none (.mv (.c (.bool false))))]) .ret) .skip)) (.seq
  (.reg [(.op (some 62) none (.mv (.t 13))), (.op (some 63) none (.mv (.t 13))), (.op (some 64) none (.iada 3 1 (.t 5) (.t 63))), (.op (some 65) none (.ld (.t 64))),
  (.op (some 66) none (.mv (.t 15))), (.op (some 67) none (.bsl 5 1 [(.int .u8 0)] [(0, (1, (.t 66)))])), (.op (some 68) none (.app 5 1 1 (.t 65) (.t 67))), (.op (some 69) none
  (.iada 3 1 (.t 5) (.t 62))), (.op none none (.st (.t 69) (.t 68)))]) (.reg [(.op (some 70) none (.mv (.t 16))), (.op (some 71) none (.cvt .u32 (.t 70))), (.op (some 72) none
  (.mv (.t 17))), (.op (some 73) none (.call 111 [(.t 6), (.t 71), (.t 72)]))])))))) (.reg [(.op (some 74) none (.bin .add (.t 49) (.c (.int .i64 1)))), (.op (some 49) none (.mv
  (.t 74)))]))))))) (.reg [(.op (some 75) none (.ldn 3 (.t 11))), (.op none none (.stn 3 (.t 7) (.t 75)))])))))) (.reg [(.op (some 76) none (.bin .add (.t 35) (.c
  (.int .i64 1)))), (.op (some 35) none (.mv (.t 76)))]))))))) (.seq (.seq (.reg [(.op (some 77) none (.ldn 3 (.t 5))), (.op (some 78) none (.mv (.c (.int .i64 0))))]) (.block 4
  (.loop (.seq (.reg [(.op (some 79) none (.bin .lss (.t 78) (.c (.int .i64 3))))]) (.seq (.cond (.t 79) .skip (.exit 4)) (.seq (.block 5 (.seq (.reg [(.op (some 80) none (.ida 3
  (.t 77) (.t 78))), (.op (some 20) none (.mv (.t 80)))]) (.reg [(.op (some 81) none (.mv (.t 20))), (.op (some 82) none (.call 112 [(.t 81)])), (.op (some 83) none
  (.call 50 [(.t 4), (.t 82)]))]))) (.reg [(.op (some 84) none (.bin .add (.t 78) (.c (.int .i64 1)))), (.op (some 78) none (.mv (.t 84)))]))))))) (.seq (.reg [(.op (some 85) none
  (.call 113 [(.t 6)])), (.op (some 86) none (.b2s 5 (.t 85))), (.op (some 87) none (.call 65 [(.t 4), (.t 86)])), (.op (some 88) none (.call 51 [(.t 87)])), (.op (some 2) none
  (.mv (.t 88))), (.op (some 3) none (.mv (.c (.bool true))))]) .ret))))))))))), [(.t 2), (.t 3)]⟩
def k76 : KFunc := ⟨32, (.seq (.reg [(.op (some 2) none (.mv (.c (.string (bs [])))))]) (.seq (.seq (.reg [(.op (some 6) none (.mv (.t 0))), (.op (some 7) none
  (.call 114 [(.t 6)]))]) (.cond (.t 7) (.seq (.reg [(.op (some 8) none (.mv (.t 0))), (.op (some 9) none (.lenS (.t 8))), (.op (some 11) none (.mv (.t 0))), (.op (some 12) none
  (.slS (.t 11) none (some (.c (.int .i64 1))))), (.op (some 10) none (.call 115 [(.c (.int .i64 1)), (.t 9)])), (.op (some 13) none (.call 50 [(.t 10), (.t 12)])),
  (.op (some 14) none (.call 51 [(.t 13)])), (.op (some 2) none (.mv (.t 14)))]) .ret) .skip)) (.seq (.reg [(.op (some 15) none (.mv (.t 0))), (.op (some 16) none
  (.call 116 [(.t 15)])), (.op (some 3) none (.mv (.t 16)))]) (.seq (.seq (.reg [(.op (some 18) none (.mv (.t 0))), (.op (some 19) none (.call 117 [(.t 18)])), (.op (some 17) none
  (.mv (.t 19))), (.op (some 20) none (.xt (.t 17) 0)), (.op (some 21) none (.xt (.t 17) 1)), (.op (some 4) none (.mv (.t 20))), (.op (some 5) none (.mv (.t 21)))]) (.seq
  (.reg [(.op (some 22) none (.mv (.t 5))), (.op (some 23) none (.mv (.t 22))), (.op (some 24) (some (23, true)) (.mv (.t 4))), (.op (some 25) (some (23, true)) (.lenS (.t 24))),
  (.op (some 26) (some (23, true)) (.mv (.t 3))), (.op (some 27) (some (23, true)) (.lenS (.t 26))), (.op (some 28) (some (23, true)) (.bin .lss (.t 25) (.t 27))),
  (.op (some 29) none (.pick (.t 23) (.t 28) (.c (.bool false))))]) (.cond (.t 29) (.seq (.reg [(.op (some 30) none (.mv (.t 4))), (.op (some 2) none (.mv
  (.t 30)))]) .ret) .skip))) (.seq (.reg [(.op (some 31) none (.mv (.t 3))), (.op (some 2) none (.mv (.t 31)))]) .ret))))), [(.t 2)]⟩
def k78 : KFunc := ⟨2, (.seq (.reg [(.op (some 0) none (.alloc 113 [(.int .u64 0), (.int .u64 0)]))]) (.seq (.reg [(.op (some 1) none (.build [(.int .u64 0), (.int .u64 0)] [(0,
  (1, (.c (.int .u64 7640891576956012808))))])), (.op none none (.stn 2 (.t 0) (.t 1)))]) .ret)), [(.cn 0 2)]⟩
def k79 : KFunc := ⟨18, (.seq (.reg [(.op (some 2) none (.box 113 (.t 0))), (.op (some 4) none (.alloc 113 [(.int .u64 0), (.int .u64 0)]))]) (.seq (.seq (.reg [(.op (some 6) none
  (.mv (.t 1))), (.op (some 7) none (.lenS (.t 6))), (.op (some 8) none (.mv (.c (.int .i64 0))))]) (.block 0 (.loop (.seq (.reg [(.op (some 9) none (.bin .lss (.t 8) (.t 7)))])
  (.seq (.cond (.t 9) .skip (.exit 0)) (.seq (.block 1 (.seq (.reg [(.op (some 10) none (.mv (.t 8))), (.op (some 5) none (.mv (.t 10)))]) (.reg [(.op (some 11) none (.ldn 2
  (.t 2))), (.op (some 12) none (.mv (.t 1))), (.op (some 13) none (.mv (.t 5))), (.op (some 14) none (.idS (.t 12) (.t 13))), (.op (some 15) none (.call 118 [(.t 11), (.t 14)])),
  (.op none none (.stn 2 (.t 2) (.t 15)))]))) (.reg [(.op (some 16) none (.bin .add (.t 8) (.c (.int .i64 1)))), (.op (some 8) none (.mv (.t 16)))]))))))) (.seq
  (.reg [(.op (some 17) none (.ldn 2 (.t 2))), (.op none none (.stn 2 (.t 4) (.t 17)))]) .ret))), [(.cn 4 2)]⟩
def k80 : KFunc := ⟨14, (.seq (.reg [(.op (some 1) none (.box 113 (.t 0))), (.op (some 2) none (.mv (.c (.int .u64 0))))]) (.seq (.reg [(.op (some 4) none (.fad 0 (.t 1))),
  (.op (some 5) none (.ld (.t 4))), (.op (some 6) none (.fad 1 (.t 1))), (.op (some 7) none (.ld (.t 6))), (.op (some 8) none (.bin .add (.t 5) (.t 7))), (.op (some 9) none
  (.bin .mul (.t 8) (.c (.int .u64 13787848793156543929)))), (.op (some 3) none (.mv (.t 9)))]) (.seq (.reg [(.op (some 10) none (.mv (.t 3))), (.op (some 11) none (.mv (.t 3))),
  (.op (some 12) none (.bin .shr (.t 11) (.c (.int .u64 32)))), (.op (some 13) none (.bin .xor (.t 10) (.t 12))), (.op (some 2) none (.mv (.t 13)))]) .ret))), [(.t 2)]⟩
def k81 : KFunc := ⟨28, (.seq (.reg [(.op (some 6) none (.mv (.c (.pointer none))))]) (.seq (.seq (.reg [(.op (some 7) none (.mv (.t 0))), (.op (some 8) none (.eqv .ptr false
  (.t 7) (.c (.pointer none))))]) (.cond (.t 8) (.seq (.reg [(.op (some 6) none (.mv (.c (.pointer none))))]) .ret) .skip)) (.seq (.seq (.reg [(.op (some 9) none (.mv (.t 2))),
  (.op (some 10) none (.call 119 [(.t 9)])), (.op (some 11) none (.mv (.c (.int .i64 0))))]) (.block 0 (.loop (.seq (.reg [(.op (some 12) none (.bin .lss (.t 11) (.t 10)))]) (.seq
  (.cond (.t 12) .skip (.exit 0)) (.seq (.block 1 (.seq (.reg [(.op (some 13) none (.mv (.t 0))), (.op (some 14) none (.mv (.t 0))), (.op (some 15) none (.nck (.t 14))),
  (.op (some 16) none (.fad 0 (.t 15))), (.op (some 17) none (.ld (.t 16))), (.op (some 18) none (.mv (.t 1))), (.op (some 19) none (.cvt .u8 (.t 18))), (.op (some 20) none
  (.bsl 5 1 [(.int .u8 0)] [(0, (1, (.t 19)))])), (.op (some 21) none (.app 5 1 1 (.t 17) (.t 20))), (.op (some 22) none (.nck (.t 13))), (.op (some 23) none (.fad 0 (.t 22))),
  (.op none none (.st (.t 23) (.t 21)))]) (.reg [(.op (some 24) none (.mv (.t 1))), (.op (some 25) none (.bin .shr (.t 24) (.c (.int .u64 8)))), (.op (some 1) none (.mv
  (.t 25)))]))) (.reg [(.op (some 26) none (.bin .add (.t 11) (.c (.int .i64 1)))), (.op (some 11) none (.mv (.t 26)))]))))))) (.seq (.reg [(.op (some 27) none (.mv (.t 0))),
  (.op (some 6) none (.mv (.t 27)))]) .ret)))), [(.t 6)]⟩
def k82 : KFunc := ⟨28, (.seq (.reg [(.op (some 4) none (.mv (.c (.int .u64 0))))]) (.seq (.reg [(.op (some 5) none (.mv (.c (.int .u64 0))))]) (.seq (.seq
  (.reg [(.op (some 8) none (.mv (.t 0))), (.op (some 9) none (.mv (.t 1))), (.op (some 10) none (.call 119 [(.t 9)])), (.op (some 11) none (.call 83 [(.t 8), (.t 10)])),
  (.op (some 12) none (.s2b 5 (.t 11))), (.op (some 13) none (.lenL (.t 12))), (.op (some 14) none (.mv (.c (.int .i64 0))))]) (.block 0 (.loop (.seq (.reg [(.op (some 15) none
  (.bin .lss (.t 14) (.t 13)))]) (.seq (.cond (.t 15) .skip (.exit 0)) (.seq (.block 1 (.seq (.reg [(.op (some 16) none (.mv (.t 14))), (.op (some 17) none (.iad 1 (.t 12)
  (.t 14))), (.op (some 18) none (.ld (.t 17))), (.op (some 6) none (.mv (.t 16))), (.op (some 7) none (.mv (.t 18)))]) (.reg [(.op (some 19) none (.mv (.t 5))),
  (.op (some 20) none (.mv (.t 7))), (.op (some 21) none (.cvt .u64 (.t 20))), (.op (some 22) none (.mv (.t 6))), (.op (some 23) none (.bin .mul (.c (.int .i64 8)) (.t 22))),
  (.op (some 24) none (.bin .shl (.t 21) (.t 23))), (.op (some 25) none (.bin .or (.t 19) (.t 24))), (.op (some 5) none (.mv (.t 25)))]))) (.reg [(.op (some 26) none (.bin .add
  (.t 14) (.c (.int .i64 1)))), (.op (some 14) none (.mv (.t 26)))]))))))) (.seq (.reg [(.op (some 27) none (.mv (.t 5))), (.op (some 4) none (.mv (.t 27)))]) .ret)))), [(.t 4)]⟩
def k83 : KFunc := ⟨37, (.seq (.reg [(.op (some 4) none (.mv (.c (.string (bs [])))))]) (.seq (.reg [(.op (some 6) none (.mv (.t 1))), (.op (some 7) none (.mx (.t 6) [(.c
  (.int .i64 0))])), (.op (some 1) none (.mv (.t 7)))]) (.seq (.seq (.reg [(.op (some 8) none (.mv (.t 0))), (.op (some 9) none (.call 61 [(.t 8)])), (.op (some 10) none (.mv
  (.t 9))), (.op (some 11) (some (10, false)) (.mv (.t 0))), (.op (some 12) (some (10, false)) (.nck (.t 11))), (.op (some 13) (some (10, false)) (.fad 0 (.t 12))),
  (.op (some 14) (some (10, false)) (.ld (.t 13))), (.op (some 15) (some (10, false)) (.lenS (.t 14))), (.op (some 16) (some (10, false)) (.mv (.t 1))), (.op (some 17) (some (10,
  false)) (.bin .lss (.t 15) (.t 16))), (.op (some 18) none (.pick (.t 10) (.c (.bool true)) (.t 17)))]) (.cond (.t 18) (.seq (.reg [(.op (some 19) none (.mv (.t 0))),
  (.op (some 20) none (.call 90 [(.t 19)]))]) (.seq (.reg [(.op (some 4) none (.mv (.c (.string (bs [])))))]) .ret)) .skip)) (.seq (.reg [(.op (some 21) none (.mv (.t 0))),
  (.op (some 22) none (.nck (.t 21))), (.op (some 23) none (.fad 0 (.t 22))), (.op (some 24) none (.ld (.t 23))), (.op (some 25) none (.mv (.t 1))), (.op (some 26) none (.slS
  (.t 24) none (some (.t 25)))), (.op (some 5) none (.mv (.t 26)))]) (.seq (.reg [(.op (some 27) none (.mv (.t 0))), (.op (some 28) none (.mv (.t 0))), (.op (some 29) none (.nck
  (.t 28))), (.op (some 30) none (.fad 0 (.t 29))), (.op (some 31) none (.ld (.t 30))), (.op (some 32) none (.mv (.t 1))), (.op (some 33) none (.slS (.t 31) (some (.t 32)) none)),
  (.op (some 34) none (.nck (.t 27))), (.op (some 35) none (.fad 0 (.t 34))), (.op none none (.st (.t 35) (.t 33)))]) (.seq (.reg [(.op (some 36) none (.mv (.t 5))),
  (.op (some 4) none (.mv (.t 36)))]) .ret)))))), [(.t 4)]⟩
def k89 : KFunc := ⟨44, (.seq (.reg [(.op (some 2) none (.mv (.c (.int .u64 0))))]) (.seq (.reg [(.op (some 3) none (.mv (.c (.int .u64 0))))]) (.seq (.seq
  (.reg [(.op (some 7) none (.mv (.c (.int .i64 0))))]) (.block 0 (.loop (.seq (.reg [(.op (some 8) none (.bin .lss (.t 7) (.c (.int .i64 10))))]) (.seq (.cond (.t 8) .skip
  (.exit 0)) (.seq (.block 1 (.seq (.reg [(.op (some 9) none (.mv (.t 7))), (.op (some 4) none (.mv (.t 9)))]) (.seq (.reg [(.op (some 10) none (.mv (.t 0))), (.op (some 11) none
  (.call 83 [(.t 10), (.c (.int .i64 1))])), (.op (some 5) none (.mv (.t 11)))]) (.seq (.seq (.reg [(.op (some 12) none (.mv (.t 5))), (.op (some 13) none (.bin .eql (.t 12) (.c
  (.string (bs [])))))]) (.cond (.t 13) (.seq (.reg [(.op (some 2) none (.mv (.c (.int .u64 0))))]) .ret) .skip)) (.seq (.reg [(.op (some 14) none (.mv (.t 5))),
  (.op (some 15) none (.idS (.t 14) (.c (.int .i64 0)))), (.op (some 16) none (.cvt .u64 (.t 15))), (.op (some 6) none (.mv (.t 16)))]) (.seq (.seq (.reg [(.op (some 17) none (.mv
  (.t 4))), (.op (some 18) none (.bin .eql (.t 17) (.c (.int .i64 9)))), (.op (some 19) none (.mv (.t 18))), (.op (some 20) (some (19, true)) (.mv (.t 6))),
  (.op (some 21) (some (19, true)) (.bin .gtr (.t 20) (.c (.int .u64 1)))), (.op (some 22) none (.pick (.t 19) (.t 21) (.c (.bool false)))), (.op (some 23) none (.mv (.t 22))),
  (.op (some 24) (some (23, false)) (.mv (.t 4))), (.op (some 25) (some (23, false)) (.bin .gtr (.t 24) (.c (.int .i64 0)))), (.op (some 26) (some (23, false)) (.mv (.t 25))),
  (.op (some 27) (some (26, true)) (.mv (.t 6))), (.op (some 28) (some (26, true)) (.bin .eql (.t 27) (.c (.int .u64 0)))), (.op (some 29) (some (23, false)) (.pick (.t 26)
  (.t 28) (.c (.bool false)))), (.op (some 30) none (.pick (.t 23) (.c (.bool true)) (.t 29)))]) (.cond (.t 30) (.exit 0) .skip)) (.seq (.reg [(.op (some 31) none (.mv (.t 3))),
  (.op (some 32) none (.mv (.t 6))), (.op (some 33) none (.bin .and (.t 32) (.c (.int .u64 127)))), (.op (some 34) none (.mv (.t 4))), (.op (some 35) none (.bin .mul (.c
  (.int .i64 7)) (.t 34))), (.op (some 36) none (.bin .shl (.t 33) (.t 35))), (.op (some 37) none (.bin .or (.t 31) (.t 36))), (.op (some 3) none (.mv (.t 37)))]) (.seq
  (.reg [(.op (some 38) none (.mv (.t 6))), (.op (some 39) none (.bin .lss (.t 38) (.c (.int .u64 128))))]) (.cond (.t 39) (.seq (.reg [(.op (some 40) none (.mv (.t 3))),
  (.op (some 2) none (.mv (.t 40)))]) .ret) .skip))))))))) (.reg [(.op (some 41) none (.bin .add (.t 7) (.c (.int .i64 1)))), (.op (some 7) none (.mv (.t 41)))]))))))) (.seq
  (.reg [(.op (some 42) none (.mv (.t 0))), (.op (some 43) none (.call 90 [(.t 42)]))]) (.seq (.reg [(.op (some 2) none (.mv (.c (.int .u64 0))))]) .ret))))), [(.t 2)]⟩
def k91 : KFunc := ⟨10, (.seq (.reg [(.op (some 4) none (.mv (.c (.string (bs [])))))]) (.seq (.reg [(.op (some 5) none (.mv (.t 0))), (.op (some 6) none (.mv (.t 0))),
  (.op (some 7) none (.mv (.t 1))), (.op (some 8) none (.call 60 [(.t 6), (.t 7)])), (.op (some 9) none (.call 83 [(.t 5), (.t 8)])), (.op (some 4) none (.mv (.t 9)))]) .ret)),
  [(.t 4)]⟩
def k101 : KFunc := ⟨6, (.seq (.reg [(.op (some 2) none (.mv (.c (.int .i64 0))))]) (.seq (.reg [(.op (some 3) none (.mv (.t 0))), (.op (some 4) none (.mx (.t 3) [(.c
  (.int .i64 0))])), (.op (some 5) none (.mn (.t 4) [(.c (.int .i64 3))])), (.op (some 2) none (.mv (.t 5)))]) .ret)), [(.t 2)]⟩
def k102 : KFunc := ⟨10, (.seq (.reg [(.op (some 2) none (.mv (.c (.int .i64 0))))]) (.seq (.seq (.reg [(.op (some 3) none (.mv (.t 0))), (.op (some 4) none (.call 101 [(.t 3)])),
  (.op (some 0) none (.mv (.t 4)))]) (.seq (.reg [(.op (some 5) none (.mv (.t 0))), (.op (some 6) none (.bin .eql (.t 5) (.c (.int .i64 0))))]) (.cond (.t 6) (.seq
  (.reg [(.op (some 2) none (.mv (.c (.int .i64 0))))]) .ret) .skip))) (.seq (.reg [(.op (some 7) none (.mv (.t 0))), (.op (some 8) none (.bin .mul (.c (.int .i64 2)) (.t 7))),
  (.op (some 9) none (.bin .shl (.c (.int .i64 1)) (.t 8))), (.op (some 2) none (.mv (.t 9)))]) .ret))), [(.t 2)]⟩
def k103 : KFunc := ⟨12, (.seq (.reg [(.op (some 4) none (.mv (.c (.string (bs [])))))]) (.seq (.reg [(.op (some 5) none (.mv (.t 0))), (.op (some 6) none (.mv (.t 0))),
  (.op (some 7) none (.lenS (.t 6))), (.op (some 8) none (.mv (.t 1))), (.op (some 9) none (.bin .sub (.t 7) (.t 8))), (.op (some 10) none (.mx (.t 9) [(.c (.int .i64 0))])),
  (.op (some 11) none (.slS (.t 5) (some (.t 10)) none)), (.op (some 4) none (.mv (.t 11)))]) .ret)), [(.t 4)]⟩
def k104 : KFunc := ⟨50, (.seq (.reg [(.op (some 2) none (.mv (.c (.pointer none))))]) (.seq (.reg [(.op (some 5) none (.mv (.t 0))), (.op (some 6) none (.mv (.t 0))),
  (.op (some 7) none (.lenS (.t 6))), (.op (some 8) none (.mn (.t 7) [(.c (.int .i64 2000))])), (.op (some 9) none (.slS (.t 5) none (some (.t 8)))), (.op (some 10) none
  (.build [(.string (bs [])), (.slice none 0 0), (.slice none 0 0), (.slice none 0 0)] [(0, (1, (.t 9)))])), (.op (some 11) none (.box 199 (.t 10))), (.op (some 3) none (.mv
  (.t 11)))]) (.seq (.reg [(.op (some 12) none (.mv (.t 3))), (.op (some 13) none (.mks 3 [(.int .i64 0)] 8 (.c (.int .i64 1024)) (.c (.int .i64 1024)))), (.op (some 14) none
  (.nck (.t 12))), (.op (some 15) none (.fad 1 (.t 14))), (.op none none (.st (.t 15) (.t 13)))]) (.seq (.seq (.reg [(.op (some 16) none (.mv (.t 3))), (.op (some 17) none (.nck
  (.t 16))), (.op (some 18) none (.fad 1 (.t 17))), (.op (some 19) none (.ld (.t 18))), (.op (some 20) none (.lenL (.t 19))), (.op (some 21) none (.mv (.c (.int .i64 0))))])
  (.block 0 (.loop (.seq (.reg [(.op (some 22) none (.bin .lss (.t 21) (.t 20)))]) (.seq (.cond (.t 22) .skip (.exit 0)) (.seq (.block 1 (.seq (.reg [(.op (some 23) none (.mv
  (.t 21))), (.op (some 4) none (.mv (.t 23)))]) (.reg [(.op (some 24) none (.mv (.t 3))), (.op (some 25) none (.nck (.t 24))), (.op (some 26) none (.fad 1 (.t 25))),
  (.op (some 27) none (.ld (.t 26))), (.op (some 28) none (.mv (.t 4))), (.op (some 29) none (.iad 1 (.t 27) (.t 28))), (.op none none (.st (.t 29) (.c (.int .i64 (-1)))))])))
  (.reg [(.op (some 30) none (.bin .add (.t 21) (.c (.int .i64 1)))), (.op (some 21) none (.mv (.t 30)))]))))))) (.seq (.reg [(.op (some 31) none (.mv (.t 3))),
  (.op (some 32) none (.mv (.t 3))), (.op (some 33) none (.mv (.t 3))), (.op (some 34) none (.nck (.t 33))), (.op (some 35) none (.fad 0 (.t 34))), (.op (some 36) none (.ld
  (.t 35))), (.op (some 37) none (.lenS (.t 36))), (.op (some 39) none (.mv (.t 3))), (.op (some 40) none (.nck (.t 39))), (.op (some 41) none (.fad 0 (.t 40))),
  (.op (some 42) none (.ld (.t 41))), (.op (some 43) none (.lenS (.t 42))), (.op (some 38) none (.mks 3 [(.int .i64 0)] 8 (.t 37) (.t 37))), (.chk 42 none (.ld (.t 41))),
  (.op (some 45) none (.nck (.t 31))), (.op (some 46) none (.fad 2 (.t 45))), (.op none none (.st (.t 46) (.t 38))), (.op (some 44) none (.mks 4 [(.bool false)] 1 (.t 43)
  (.t 43))), (.chk 36 none (.ld (.t 35))), (.op (some 47) none (.nck (.t 32))), (.op (some 48) none (.fad 3 (.t 47))), (.op none none (.st (.t 48) (.t 44)))]) (.seq
  (.reg [(.op (some 49) none (.mv (.t 3))), (.op (some 2) none (.mv (.t 49)))]) .ret)))))), [(.t 2)]⟩
def k105 : KFunc := ⟨48, (.seq (.reg [(.op (some 4) none (.mv (.c (.bool false))))]) (.seq (.seq (.reg [(.op (some 6) none (.mv (.t 0))), (.op (some 7) none (.mv (.t 1))),
  (.op (some 8) none (.call 144 [(.t 6), (.t 7)])), (.op (some 9) none (.un .not (.t 8))), (.op (some 10) none (.mv (.t 9))), (.op (some 11) (some (10, false)) (.mv (.t 0))),
  (.op (some 12) (some (10, false)) (.nck (.t 11))), (.op (some 13) (some (10, false)) (.fad 3 (.t 12))), (.op (some 14) (some (10, false)) (.ld (.t 13))),
  (.op (some 15) (some (10, false)) (.mv (.t 1))), (.op (some 16) (some (10, false)) (.iad 1 (.t 14) (.t 15))), (.op (some 17) (some (10, false)) (.ld (.t 16))),
  (.op (some 18) none (.pick (.t 10) (.c (.bool true)) (.t 17)))]) (.cond (.t 18) (.seq (.reg [(.op (some 4) none (.mv (.c (.bool false))))]) .ret) .skip)) (.seq
  (.reg [(.op (some 19) none (.mv (.t 0))), (.op (some 20) none (.mv (.t 1))), (.op (some 21) none (.call 145 [(.t 19), (.t 20)])), (.op (some 5) none (.mv (.t 21)))]) (.seq
  (.reg [(.op (some 22) none (.mv (.t 0))), (.op (some 23) none (.nck (.t 22))), (.op (some 24) none (.fad 2 (.t 23))), (.op (some 25) none (.ld (.t 24))), (.op (some 26) none
  (.mv (.t 1))), (.op (some 27) none (.mv (.t 0))), (.op (some 28) none (.nck (.t 27))), (.op (some 29) none (.fad 3 (.t 28))), (.op (some 30) none (.ld (.t 29))),
  (.op (some 31) none (.mv (.t 1))), (.op (some 32) none (.mv (.t 0))), (.op (some 33) none (.nck (.t 32))), (.op (some 34) none (.fad 1 (.t 33))), (.op (some 35) none (.ld
  (.t 34))), (.op (some 36) none (.mv (.t 5))), (.op (some 37) none (.iad 1 (.t 35) (.t 36))), (.op (some 38) none (.ld (.t 37))), (.op (some 39) none (.iad 1 (.t 25) (.t 26))),
  (.op none none (.st (.t 39) (.t 38))), (.op (some 40) none (.iad 1 (.t 30) (.t 31))), (.op none none (.st (.t 40) (.c (.bool true))))]) (.seq (.reg [(.op (some 41) none (.mv
  (.t 0))), (.op (some 42) none (.nck (.t 41))), (.op (some 43) none (.fad 1 (.t 42))), (.op (some 44) none (.ld (.t 43))), (.op (some 45) none (.mv (.t 5))), (.op (some 46) none
  (.mv (.t 1))), (.op (some 47) none (.iad 1 (.t 44) (.t 45))), (.op none none (.st (.t 47) (.t 46)))]) (.seq (.reg [(.op (some 4) none (.mv (.c (.bool true))))]) .ret)))))),
  [(.t 4)]⟩
def k106 : KFunc := ⟨93, (.seq (.reg [(.op (some 6) none (.mv (.c (.int .i64 0)))), (.op (some 7) none (.mv (.c (.int .i64 0))))]) (.seq (.seq (.reg [(.op (some 13) none (.mv
  (.t 0))), (.op (some 14) none (.mv (.t 1))), (.op (some 15) none (.call 144 [(.t 13), (.t 14)])), (.op (some 16) none (.un .not (.t 15)))]) (.cond (.t 16) (.seq
  (.reg [(.op (some 6) none (.mv (.c (.int .i64 0)))), (.op (some 7) none (.mv (.c (.int .i64 0))))]) .ret) .skip)) (.seq (.reg [(.op (some 17) none (.mv (.t 2))),
  (.op (some 18) none (.mx (.t 17) [(.c (.int .i64 0))])), (.op (some 19) none (.mn (.t 18) [(.c (.int .i64 1000))])), (.op (some 2) none (.mv (.t 19)))]) (.seq
  (.reg [(.op (some 8) none (.mv (.c (.int .i64 0)))), (.op (some 9) none (.mv (.c (.int .i64 0))))]) (.seq (.reg [(.op (some 20) none (.mv (.t 0))), (.op (some 21) none (.nck
  (.t 20))), (.op (some 22) none (.fad 0 (.t 21))), (.op (some 23) none (.ld (.t 22))), (.op (some 24) none (.mv (.t 1))), (.op (some 25) none (.mv (.t 1))), (.op (some 26) none
  (.bin .add (.t 25) (.c (.int .i64 3)))), (.op (some 27) none (.slS (.t 23) (some (.t 24)) (some (.t 26)))), (.op (some 10) none (.mv (.t 27)))]) (.seq (.seq
  (.reg [(.op (some 28) none (.mv (.t 0))), (.op (some 29) none (.nck (.t 28))), (.op (some 30) none (.fad 1 (.t 29))), (.op (some 31) none (.ld (.t 30))), (.op (some 32) none
  (.mv (.t 0))), (.op (some 33) none (.mv (.t 1))), (.op (some 34) none (.call 145 [(.t 32), (.t 33)])), (.chk 31 none (.ld (.t 30))), (.op (some 35) none (.iad 1 (.t 31)
  (.t 34))), (.op (some 36) none (.ld (.t 35))), (.op (some 11) none (.mv (.t 36)))]) (.block 0 (.loop (.seq (.seq (.reg [(.op (some 37) none (.mv (.t 11))), (.op (some 38) none
  (.bin .neq (.t 37) (.c (.int .i64 (-1))))), (.op (some 39) none (.mv (.t 38))), (.op (some 40) (some (39, true)) (.mv (.t 2))), (.op (some 41) (some (39, true)) (.bin .gtr
  (.t 40) (.c (.int .i64 0)))), (.op (some 42) none (.pick (.t 39) (.t 41) (.c (.bool false))))]) (.cond (.t 42) .skip (.exit 0))) (.seq (.block 1 (.seq (.seq
  (.reg [(.op (some 50) none (.mv (.t 0))), (.op (some 51) none (.nck (.t 50))), (.op (some 52) none (.fad 0 (.t 51))), (.op (some 53) none (.ld (.t 52))), (.op (some 54) none
  (.mv (.t 11))), (.op (some 55) none (.mv (.t 11))), (.op (some 56) none (.bin .add (.t 55) (.c (.int .i64 3)))), (.op (some 57) none (.slS (.t 53) (some (.t 54)) (some
  (.t 56)))), (.op (some 58) none (.mv (.t 10))), (.op (some 59) none (.bin .neq (.t 57) (.t 58)))]) (.cond (.t 59) (.exit 1) .skip)) (.seq (.reg [(.op (some 60) none (.mv
  (.t 2))), (.op (some 61) none (.bin .sub (.t 60) (.c (.int .i64 1)))), (.op (some 2) none (.mv (.t 61)))]) (.seq (.seq (.reg [(.op (some 62) none (.mv (.t 11))),
  (.op (some 63) none (.mv (.t 1))), (.op (some 64) none (.bin .geq (.t 62) (.t 63)))]) (.cond (.t 64) (.exit 1) .skip)) (.seq (.reg [(.op (some 65) none (.mv (.t 0))),
  (.op (some 66) none (.nck (.t 65))), (.op (some 67) none (.fad 0 (.t 66))), (.op (some 68) none (.ld (.t 67))), (.op (some 69) none (.mv (.t 11))), (.op (some 70) none (.mv
  (.t 1))), (.op (some 71) none (.call 146 [(.t 68), (.t 69), (.t 70)])), (.op (some 12) none (.mv (.t 71)))]) (.seq (.reg [(.op (some 72) none (.mv (.t 12))), (.op (some 73) none
  (.mv (.t 9))), (.op (some 74) none (.bin .gtr (.t 72) (.t 73))), (.op (some 75) none (.mv (.t 74))), (.op (some 76) (some (75, false)) (.mv (.t 12))), (.op (some 77) (some (75,
  false)) (.mv (.t 9))), (.op (some 78) (some (75, false)) (.bin .eql (.t 76) (.t 77))), (.op (some 79) (some (75, false)) (.mv (.t 78))), (.op (some 80) (some (79, true)) (.mv
  (.t 1))), (.op (some 81) (some (79, true)) (.mv (.t 11))), (.op (some 82) (some (79, true)) (.bin .sub (.t 80) (.t 81))), (.op (some 83) (some (79, true)) (.mv (.t 8))),
  (.op (some 84) (some (79, true)) (.bin .lss (.t 82) (.t 83))), (.op (some 85) (some (75, false)) (.pick (.t 79) (.t 84) (.c (.bool false)))), (.op (some 86) none (.pick (.t 75)
  (.c (.bool true)) (.t 85)))]) (.cond (.t 86) (.reg [(.op (some 87) none (.mv (.t 1))), (.op (some 88) none (.mv (.t 11))), (.op (some 89) none (.bin .sub (.t 87) (.t 88))),
  (.op (some 90) none (.mv (.t 12))), (.op (some 8) none (.mv (.t 89))), (.op (some 9) none (.mv (.t 90)))]) .skip))))))) (.reg [(.op (some 43) none (.mv (.t 0))),
  (.op (some 44) none (.nck (.t 43))), (.op (some 45) none (.fad 2 (.t 44))), (.op (some 46) none (.ld (.t 45))), (.op (some 47) none (.mv (.t 11))), (.op (some 48) none (.iad 1
  (.t 46) (.t 47))), (.op (some 49) none (.ld (.t 48))), (.op (some 11) none (.mv (.t 49)))])))))) (.seq (.reg [(.op (some 91) none (.mv (.t 8))), (.op (some 92) none (.mv
  (.t 9))), (.op (some 6) none (.mv (.t 91))), (.op (some 7) none (.mv (.t 92)))]) .ret))))))), [(.t 6), (.t 7)]⟩
def k111 : KFunc := ⟨74, (.seq (.reg [(.op (some 6) none (.mv (.c (.bool false))))]) (.seq (.seq (.reg [(.op (some 9) none (.mv (.t 0))), (.op (some 10) none (.eqv .ptr false
  (.t 9) (.c (.pointer none)))), (.op (some 11) none (.mv (.t 10))), (.op (some 12) (some (11, false)) (.mv (.t 2))), (.op (some 13) (some (11, false)) (.call 149 [(.t 12)])),
  (.op (some 14) (some (11, false)) (.un .not (.t 13))), (.op (some 15) none (.pick (.t 11) (.c (.bool true)) (.t 14)))]) (.cond (.t 15) (.seq (.reg [(.op (some 6) none (.mv (.c
  (.bool false))))]) .ret) .skip)) (.seq (.block 0 (.loop (.seq (.seq (.reg [(.op (some 16) none (.mv (.t 2))), (.op (some 17) none (.bin .gtr (.t 16) (.c (.int .i64 0))))])
  (.cond (.t 17) .skip (.exit 0))) (.block 1 (.seq (.reg [(.op (some 18) none (.mv (.t 0))), (.op (some 19) none (.nck (.t 18))), (.op (some 20) none (.fad 1 (.t 19))),
  (.op (some 21) none (.ld (.t 20))), (.op (some 22) none (.bin .and (.t 21) (.c (.int .i64 7)))), (.op (some 7) none (.mv (.t 22)))]) (.seq (.seq (.reg [(.op (some 23) none (.mv
  (.t 7))), (.op (some 24) none (.bin .eql (.t 23) (.c (.int .i64 0))))]) (.cond (.t 24) (.reg [(.op (some 25) none (.mv (.t 0))), (.op (some 26) none (.mv (.t 0))),
  (.op (some 27) none (.nck (.t 26))), (.op (some 28) none (.fad 0 (.t 27))), (.op (some 29) none (.ld (.t 28))), (.op (some 30) none (.bsl 5 1 [(.int .u8 0)] [(0, (1, (.c
  (.int .u8 0))))])), (.op (some 31) none (.app 5 1 1 (.t 29) (.t 30))), (.op (some 32) none (.nck (.t 25))), (.op (some 33) none (.fad 0 (.t 32))), (.op none none (.st (.t 33)
  (.t 31)))]) .skip)) (.seq (.reg [(.op (some 34) none (.mv (.t 2))), (.op (some 35) none (.mv (.t 7))), (.op (some 36) none (.bin .sub (.c (.int .i64 8)) (.t 35))),
  (.op (some 37) none (.mn (.t 34) [(.t 36)])), (.op (some 8) none (.mv (.t 37)))]) (.seq (.reg [(.op (some 38) none (.mv (.t 0))), (.op (some 39) none (.nck (.t 38))),
  (.op (some 40) none (.fad 0 (.t 39))), (.op (some 41) none (.ld (.t 40))), (.op (some 42) none (.mv (.t 0))), (.op (some 43) none (.nck (.t 42))), (.op (some 44) none (.fad 0
  (.t 43))), (.op (some 45) none (.ld (.t 44))), (.op (some 46) none (.lenL (.t 45))), (.op (some 47) none (.bin .sub (.t 46) (.c (.int .i64 1)))), (.op (some 48) none (.iad 1
  (.t 41) (.t 47))), (.op (some 49) none (.ld (.t 48))), (.op (some 50) none (.mv (.t 1))), (.op (some 51) none (.mv (.t 8))), (.op (some 52) none (.bin .shl (.c (.int .u32 1))
  (.t 51))), (.op (some 53) none (.bin .sub (.t 52) (.c (.int .u32 1)))), (.op (some 54) none (.bin .and (.t 50) (.t 53))), (.op (some 55) none (.cvt .u8 (.t 54))),
  (.op (some 56) none (.mv (.t 7))), (.op (some 57) none (.bin .shl (.t 55) (.t 56))), (.op (some 58) none (.bin .or (.t 49) (.t 57))), (.op (some 59) none (.iad 1 (.t 41)
  (.t 47))), (.op none none (.st (.t 59) (.t 58)))]) (.seq (.reg [(.op (some 60) none (.mv (.t 1))), (.op (some 61) none (.mv (.t 8))), (.op (some 62) none (.bin .shr (.t 60)
  (.t 61))), (.op (some 1) none (.mv (.t 62)))]) (.seq (.reg [(.op (some 63) none (.mv (.t 0))), (.op (some 64) none (.nck (.t 63))), (.op (some 65) none (.fad 1 (.t 64))),
  (.op (some 66) none (.ld (.t 65))), (.op (some 67) none (.mv (.t 8))), (.op (some 68) none (.bin .add (.t 66) (.t 67))), (.op (some 69) none (.nck (.t 63))), (.op (some 70) none
  (.fad 1 (.t 69))), (.op none none (.st (.t 70) (.t 68)))]) (.reg [(.op (some 71) none (.mv (.t 2))), (.op (some 72) none (.mv (.t 8))), (.op (some 73) none (.bin .sub (.t 71)
  (.t 72))), (.op (some 2) none (.mv (.t 73)))]))))))))))) (.seq (.reg [(.op (some 6) none (.mv (.c (.bool true))))]) .ret)))), [(.t 6)]⟩
def k113 : KFunc := ⟨10, (.seq (.reg [(.op (some 2) none (.mv (.c (.slice none 0 0))))]) (.seq (.seq (.reg [(.op (some 3) none (.mv (.t 0))), (.op (some 4) none (.eqv .ptr false
  (.t 3) (.c (.pointer none))))]) (.cond (.t 4) (.seq (.reg [(.op (some 2) none (.mv (.c (.slice none 0 0))))]) .ret) .skip)) (.seq (.reg [(.op (some 5) none (.mv (.t 0))),
  (.op (some 6) none (.nck (.t 5))), (.op (some 7) none (.fad 0 (.t 6))), (.op (some 8) none (.ld (.t 7))), (.op (some 9) none (.app 5 1 1 (.c (.slice none 0 0)) (.t 8))),
  (.op (some 2) none (.mv (.t 9)))]) .ret))), [(.t 2)]⟩
def k114 : KFunc := ⟨14, (.seq (.reg [(.op (some 2) none (.mv (.c (.bool false))))]) (.seq (.reg [(.op (some 3) none (.mv (.t 0))), (.op (some 4) none (.bin .neq (.t 3) (.c
  (.string (bs []))))), (.op (some 5) none (.mv (.t 4))), (.op (some 6) (some (5, true)) (.mv (.t 0))), (.op (some 7) (some (5, true)) (.mv (.t 0))), (.op (some 8) (some (5,
  true)) (.slS (.t 7) none (some (.c (.int .i64 1))))), (.op (some 9) (some (5, true)) (.mv (.t 0))), (.op (some 10) (some (5, true)) (.lenS (.t 9))), (.op (some 11) (some (5,
  true)) (.call 84 [(.t 8), (.t 10)])), (.op (some 12) (some (5, true)) (.bin .eql (.t 6) (.t 11))), (.op (some 13) none (.pick (.t 5) (.t 12) (.c (.bool false)))),
  (.op (some 2) none (.mv (.t 13)))]) .ret)), [(.t 2)]⟩
def k115 : KFunc := ⟨12, (.seq (.reg [(.op (some 4) none (.mv (.c (.pointer none))))]) (.seq (.reg [(.op (some 5) none (.alloc 99 [(.slice none 0 0)]))]) (.seq
  (.reg [(.op (some 6) none (.mv (.t 0))), (.op (some 7) none (.cvt .u64 (.t 6))), (.op (some 8) none (.call 81 [(.t 5), (.t 7), (.c (.int .i64 1))])), (.op (some 9) none (.mv
  (.t 1))), (.op (some 10) none (.cvt .u64 (.t 9))), (.op (some 11) none (.call 64 [(.t 8), (.t 10)])), (.op (some 4) none (.mv (.t 11)))]) .ret))), [(.t 4)]⟩
def k116 : KFunc := ⟨9, (.seq (.reg [(.op (some 2) none (.mv (.c (.string (bs [])))))]) (.seq (.reg [(.op (some 3) none (.mv (.t 0))), (.op (some 4) none (.lenS (.t 3))),
  (.op (some 5) none (.call 115 [(.c (.int .i64 0)), (.t 4)])), (.op (some 6) none (.mv (.t 0))), (.op (some 7) none (.call 50 [(.t 5), (.t 6)])), (.op (some 8) none
  (.call 51 [(.t 7)])), (.op (some 2) none (.mv (.t 8)))]) .ret)), [(.t 2)]⟩
def k117 : KFunc := ⟨39, (.seq (.reg [(.op (some 2) none (.mv (.c (.string (bs []))))), (.op (some 3) none (.mv (.c (.bool false))))]) (.seq (.reg [(.op (some 10) none (.mv
  (.t 0))), (.op (some 11) none (.s2b 5 (.t 10))), (.op (some 12) none (.call 155 [(.t 11)])), (.op (some 13) none (.call 154 [(.t 12)])), (.op (some 9) none (.mv (.t 13))),
  (.op (some 14) none (.xt (.t 9) 0)), (.op (some 15) none (.xt (.t 9) 1)), (.op (some 4) none (.mv (.t 14))), (.op (some 5) none (.mv (.t 15)))]) (.seq (.seq
  (.reg [(.op (some 16) none (.mv (.t 5))), (.op (some 17) none (.un .not (.t 16)))]) (.cond (.t 17) (.seq (.reg [(.op (some 2) none (.mv (.c (.string (bs []))))),
  (.op (some 3) none (.mv (.c (.bool false))))]) .ret) .skip)) (.seq (.reg [(.op (some 19) none (.mv (.t 4))), (.op (some 20) none (.call 156 [(.t 19)])), (.op (some 18) none (.mv
  (.t 20))), (.op (some 21) none (.xt (.t 18) 0)), (.op (some 22) none (.xt (.t 18) 1)), (.op (some 6) none (.mv (.t 21))), (.op (some 7) none (.mv (.t 22)))]) (.seq
  (.reg [(.op (some 24) none (.mv (.t 4))), (.op (some 25) none (.mv (.t 0))), (.op (some 26) none (.s2b 5 (.t 25))), (.op (some 27) none (.call 157 [(.t 24), (.t 26)])),
  (.op (some 23) none (.mv (.t 27))), (.op (some 28) none (.xt (.t 23) 0)), (.op (some 29) none (.xt (.t 23) 1)), (.op (some 8) none (.mv (.t 28))), (.op (some 5) none (.mv
  (.t 29)))]) (.seq (.reg [(.op (some 30) none (.mv (.t 0))), (.op (some 31) none (.lenS (.t 30))), (.op (some 32) none (.call 115 [(.c (.int .i64 2)), (.t 31)])),
  (.op (some 33) none (.mv (.t 6))), (.op (some 34) none (.call 50 [(.t 32), (.t 33)])), (.op (some 35) none (.mv (.t 8))), (.op (some 36) none (.call 65 [(.t 34), (.t 35)])),
  (.op (some 37) none (.call 51 [(.t 36)])), (.op (some 38) none (.mv (.t 5))), (.op (some 2) none (.mv (.t 37))), (.op (some 3) none (.mv (.t 38)))]) .ret)))))), [(.t 2), (.t 3)]⟩
def k118 : KFunc := ⟨20, (.seq (.reg [(.op (some 2) none (.box 113 (.t 0))), (.op (some 4) none (.alloc 113 [(.int .u64 0), (.int .u64 0)]))]) (.seq (.reg [(.op (some 6) none
  (.fad 0 (.t 2))), (.op (some 7) none (.ld (.t 6))), (.op (some 8) none (.mv (.t 1))), (.op (some 9) none (.cvt .u64 (.t 8))), (.op (some 10) none (.bin .xor (.t 7) (.t 9))),
  (.op (some 11) none (.bin .mul (.t 10) (.c (.int .u64 11400714819323198485)))), (.op (some 5) none (.mv (.t 11)))]) (.seq (.reg [(.op (some 12) none (.mv (.t 5))),
  (.op (some 13) none (.mv (.t 5))), (.op (some 14) none (.bin .shr (.t 13) (.c (.int .u64 29)))), (.op (some 15) none (.bin .xor (.t 12) (.t 14))), (.op (some 16) none (.fad 1
  (.t 2))), (.op (some 17) none (.ld (.t 16))), (.op (some 18) none (.bin .add (.t 17) (.c (.int .u64 1)))), (.op (some 19) none (.build [(.int .u64 0), (.int .u64 0)] [(0, (1,
  (.t 15))), (1, (1, (.t 18)))])), (.op none none (.stn 2 (.t 4) (.t 19)))]) .ret))), [(.cn 4 2)]⟩
def k119 : KFunc := ⟨6, (.seq (.reg [(.op (some 2) none (.mv (.c (.int .i64 0))))]) (.seq (.reg [(.op (some 3) none (.mv (.t 0))), (.op (some 4) none (.mx (.t 3) [(.c
  (.int .i64 0))])), (.op (some 5) none (.mn (.t 4) [(.c (.int .i64 8))])), (.op (some 2) none (.mv (.t 5)))]) .ret)), [(.t 2)]⟩
def k132 : KFunc := ⟨13, (.seq (.reg [(.op (some 2) none (.mv (.c (.int .i64 0))))]) (.seq (.reg [(.op (some 3) none (.mv (.c (.int .i64 1))))]) (.seq (.seq
  (.reg [(.op (some 4) none (.mv (.c (.int .i64 0))))]) (.block 0 (.loop (.seq (.seq (.reg [(.op (some 5) none (.mv (.t 4))), (.op (some 6) none (.mv (.t 0))), (.op (some 7) none
  (.bin .lss (.t 5) (.t 6)))]) (.cond (.t 7) .skip (.exit 0))) (.seq (.block 1 (.reg [(.op (some 10) none (.mv (.t 3))), (.op (some 11) none (.bin .mul (.t 10) (.c
  (.int .i64 2)))), (.op (some 3) none (.mv (.t 11)))])) (.reg [(.op (some 8) none (.mv (.t 4))), (.op (some 9) none (.bin .add (.t 8) (.c (.int .i64 1)))), (.op (some 4) none
  (.mv (.t 9)))])))))) (.seq (.reg [(.op (some 12) none (.mv (.t 3))), (.op (some 2) none (.mv (.t 12)))]) .ret)))), [(.t 2)]⟩
def k138 : KFunc := ⟨17, (.seq (.reg [(.op (some 4) none (.mv (.t 0))), (.op (some 5) none (.inv (.t 4) "Len" [])), (.op (some 2) none (.mv (.t 5)))]) (.seq
  (.reg [(.op (some 6) none (.mv (.t 2))), (.op (some 7) none (.bin .quo (.t 6) (.c (.int .i64 2)))), (.op (some 8) none (.bin .sub (.t 7) (.c (.int .i64 1)))), (.op (some 3) none
  (.mv (.t 8)))]) (.block 0 (.loop (.seq (.seq (.reg [(.op (some 9) none (.mv (.t 3))), (.op (some 10) none (.bin .geq (.t 9) (.c (.int .i64 0))))]) (.cond (.t 10) .skip
  (.exit 0))) (.seq (.block 1 (.reg [(.op (some 13) none (.mv (.t 0))), (.op (some 14) none (.mv (.t 3))), (.op (some 15) none (.mv (.t 2))), (.op (some 16) none
  (.call 175 [(.t 13), (.t 14), (.t 15)]))])) (.reg [(.op (some 11) none (.mv (.t 3))), (.op (some 12) none (.bin .sub (.t 11) (.c (.int .i64 1)))), (.op (some 3) none (.mv
  (.t 12)))]))))))), []⟩
def k140 : KFunc := ⟨15, (.seq (.reg [(.op (some 2) none (.mv (.c .nilIface)))]) (.seq (.reg [(.op (some 4) none (.mv (.t 0))), (.op (some 5) none (.inv (.t 4) "Len" [])),
  (.op (some 6) none (.bin .sub (.t 5) (.c (.int .i64 1)))), (.op (some 3) none (.mv (.t 6)))]) (.seq (.reg [(.op (some 7) none (.mv (.t 0))), (.op (some 8) none (.mv (.t 3))),
  (.op (some 9) none (.inv (.t 7) "Swap" [(.c (.int .i64 0)), (.t 8)]))]) (.seq (.reg [(.op (some 10) none (.mv (.t 0))), (.op (some 11) none (.mv (.t 3))), (.op (some 12) none
  (.call 175 [(.t 10), (.c (.int .i64 0)), (.t 11)]))]) (.seq (.reg [(.op (some 13) none (.mv (.t 0))), (.op (some 14) none (.inv (.t 13) "Pop" [])), (.op (some 2) none (.mv
  (.t 14)))]) .ret))))), [(.t 2)]⟩
def k141 : KFunc := ⟨12, (.seq (.reg [(.op (some 4) none (.mv (.t 0))), (.op (some 5) none (.mv (.t 1))), (.op (some 6) none (.inv (.t 4) "Push" [(.t 5)]))])
  (.reg [(.op (some 7) none (.mv (.t 0))), (.op (some 8) none (.mv (.t 0))), (.op (some 9) none (.inv (.t 8) "Len" [])), (.op (some 10) none (.bin .sub (.t 9) (.c
  (.int .i64 1)))), (.op (some 11) none (.call 176 [(.t 7), (.t 10)]))])), []⟩
def k144 : KFunc := ⟨14, (.seq (.reg [(.op (some 4) none (.mv (.c (.bool false))))]) (.seq (.reg [(.op (some 5) none (.mv (.t 1))), (.op (some 6) none (.bin .geq (.t 5) (.c
  (.int .i64 0)))), (.op (some 7) none (.mv (.t 6))), (.op (some 8) (some (7, true)) (.mv (.t 1))), (.op (some 9) (some (7, true)) (.mv (.t 0))), (.op (some 10) (some (7, true))
  (.call 179 [(.t 9)])), (.op (some 11) (some (7, true)) (.bin .sub (.t 10) (.c (.int .i64 3)))), (.op (some 12) (some (7, true)) (.bin .leq (.t 8) (.t 11))), (.op (some 13) none
  (.pick (.t 7) (.t 12) (.c (.bool false)))), (.op (some 4) none (.mv (.t 13)))]) .ret)), [(.t 4)]⟩
def k145 : KFunc := ⟨32, (.seq (.reg [(.op (some 4) none (.mv (.c (.int .i64 0))))]) (.seq (.reg [(.op (some 7) none (.mv (.t 0))), (.op (some 8) none (.nck (.t 7))),
  (.op (some 9) none (.fad 0 (.t 8))), (.op (some 10) none (.ld (.t 9))), (.op (some 11) none (.mv (.t 1))), (.op (some 12) none (.mv (.t 1))), (.op (some 13) none (.bin .add
  (.t 12) (.c (.int .i64 3)))), (.op (some 14) none (.slS (.t 10) (some (.t 11)) (some (.t 13)))), (.op (some 5) none (.mv (.t 14)))]) (.seq (.reg [(.op (some 15) none (.mv
  (.t 5))), (.op (some 16) none (.idS (.t 15) (.c (.int .i64 0)))), (.op (some 17) none (.cvt .u32 (.t 16))), (.op (some 18) none (.mv (.t 5))), (.op (some 19) none (.idS (.t 18)
  (.c (.int .i64 1)))), (.op (some 20) none (.cvt .u32 (.t 19))), (.op (some 21) none (.bin .shl (.t 20) (.c (.int .u64 8)))), (.op (some 22) none (.bin .or (.t 17) (.t 21))),
  (.op (some 23) none (.mv (.t 5))), (.op (some 24) none (.idS (.t 23) (.c (.int .i64 2)))), (.op (some 25) none (.cvt .u32 (.t 24))), (.op (some 26) none (.bin .shl (.t 25) (.c
  (.int .u64 16)))), (.op (some 27) none (.bin .or (.t 22) (.t 26))), (.op (some 6) none (.mv (.t 27)))]) (.seq (.reg [(.op (some 28) none (.mv (.t 6))), (.op (some 29) none
  (.bin .mul (.t 28) (.c (.int .u32 2654435761)))), (.op (some 30) none (.bin .shr (.t 29) (.c (.int .u64 22)))), (.op (some 31) none (.cvt .i64 (.t 30))), (.op (some 4) none (.mv
  (.t 31)))]) .ret)))), [(.t 4)]⟩
def k149 : KFunc := ⟨9, (.seq (.reg [(.op (some 2) none (.mv (.c (.bool false))))]) (.seq (.reg [(.op (some 3) none (.mv (.t 0))), (.op (some 4) none (.bin .geq (.t 3) (.c
  (.int .i64 0)))), (.op (some 5) none (.mv (.t 4))), (.op (some 6) (some (5, true)) (.mv (.t 0))), (.op (some 7) (some (5, true)) (.bin .leq (.t 6) (.c (.int .i64 32)))),
  (.op (some 8) none (.pick (.t 5) (.t 7) (.c (.bool false)))), (.op (some 2) none (.mv (.t 8)))]) .ret)), [(.t 2)]⟩
def k154 : KFunc := ⟨39, (.seq (.reg [(.op (some 2) none (.mv (.c (.slice none 0 0)))), (.op (some 3) none (.mv (.c (.bool false))))]) (.seq (.seq (.reg [(.op (some 8) none (.mv
  (.t 0))), (.op (some 9) none (.call 189 [(.t 8)])), (.op (some 10) none (.un .not (.t 9)))]) (.cond (.t 10) (.seq (.reg [(.op (some 2) none (.mv (.c (.slice none 0 0)))),
  (.op (some 3) none (.mv (.c (.bool false))))]) .ret) .skip)) (.seq (.reg [(.op (some 12) none (.mv (.t 0))), (.op (some 13) none (.call 190 [(.t 12)])), (.op (some 11) none (.mv
  (.t 13))), (.op (some 14) none (.xt (.t 11) 0)), (.op (some 15) none (.xt (.t 11) 1)), (.op (some 4) none (.mv (.t 14))), (.op (some 5) none (.mv (.t 15)))]) (.seq
  (.reg [(.op (some 16) none (.mv (.t 0))), (.op (some 17) none (.lenL (.t 16))), (.op (some 18) none (.mks 3 [(.int .i64 0)] 8 (.t 17) (.t 17))), (.op (some 6) none
  (.alloc 105 [(.slice none 0 0)])), (.op none none (.st (.t 6) (.t 18)))]) (.seq (.seq (.reg [(.op (some 19) none (.mv (.t 4))), (.op (some 20) none (.nck (.t 19))),
  (.op (some 21) none (.fad 2 (.t 20))), (.op (some 22) none (.ld (.t 21))), (.op (some 23) none (.bin .geq (.t 22) (.c (.int .i64 0))))]) (.cond (.t 23) (.seq
  (.reg [(.op (some 24) none (.ld (.t 6))), (.op (some 25) none (.mv (.t 4))), (.op (some 26) none (.nck (.t 25))), (.op (some 27) none (.fad 2 (.t 26))), (.op (some 28) none (.ld
  (.t 27))), (.op (some 29) none (.iad 1 (.t 24) (.t 28))), (.op none none (.st (.t 29) (.c (.int .i64 1))))]) (.seq (.reg [(.op (some 30) none (.ld (.t 6))), (.op (some 2) none
  (.mv (.t 30))), (.op (some 3) none (.mv (.c (.bool true))))]) .ret)) .skip)) (.seq (.reg [(.op (some 7) none (.alloc 3 [(.int .i64 0)])), (.op none none (.st (.t 7) (.c
  (.int .i64 0))))]) (.seq (.reg [(.op (some 31) none (.mv (.t 4))), (.op (some 32) none (.mkf (.func 192) [] [(.t 6), (.t 7)])), (.op (some 33) none (.call 191 [(.t 31), (.c
  (.int .i64 0)), (.t 32)]))]) (.seq (.seq (.reg [(.op (some 34) none (.ld (.t 7))), (.op (some 35) none (.bin .gtr (.t 34) (.c (.int .i64 11))))]) (.cond (.t 35) (.seq
  (.reg [(.op (some 36) none (.mv (.t 0))), (.op (some 37) none (.call 193 [(.t 36)])), (.op (some 2) none (.mv (.t 37))), (.op (some 3) none (.mv (.c
  (.bool true))))]) .ret) .skip)) (.seq (.reg [(.op (some 38) none (.ld (.t 6))), (.op (some 2) none (.mv (.t 38))), (.op (some 3) none (.mv (.c (.bool true))))]) .ret))))))))),
  [(.t 2), (.t 3)]⟩
def k155 : KFunc := ⟨28, (.seq (.reg [(.op (some 2) none (.mv (.c (.slice none 0 0))))]) (.seq (.reg [(.op (some 3) none (.mv (.c (.slice none 0 0))))]) (.seq (.seq
  (.reg [(.op (some 6) none (.mv (.t 0))), (.op (some 7) none (.lenL (.t 6))), (.op (some 8) none (.mv (.c (.int .i64 0))))]) (.block 0 (.loop (.seq (.reg [(.op (some 9) none
  (.bin .lss (.t 8) (.t 7)))]) (.seq (.cond (.t 9) .skip (.exit 0)) (.seq (.block 1 (.seq (.reg [(.op (some 10) none (.iad 1 (.t 6) (.t 8))), (.op (some 11) none (.ld (.t 10))),
  (.op (some 5) none (.mv (.t 11)))]) (.seq (.block 2 (.loop (.seq (.seq (.reg [(.op (some 12) none (.mv (.t 3))), (.op (some 13) none (.lenL (.t 12))), (.op (some 14) none (.mv
  (.t 5))), (.op (some 15) none (.cvt .i64 (.t 14))), (.op (some 16) none (.bin .leq (.t 13) (.t 15)))]) (.cond (.t 16) .skip (.exit 2))) (.block 3 (.reg [(.op (some 17) none (.mv
  (.t 3))), (.op (some 18) none (.bsl 3 1 [(.int .i64 0)] [(0, (1, (.c (.int .i64 0))))])), (.op (some 19) none (.app 3 1 8 (.t 17) (.t 18))), (.op (some 3) none (.mv
  (.t 19)))]))))) (.reg [(.op (some 20) none (.mv (.t 3))), (.op (some 21) none (.mv (.t 5))), (.op (some 22) none (.iad 1 (.t 20) (.t 21))), (.op (some 23) none (.ld (.t 22))),
  (.op (some 24) none (.bin .add (.t 23) (.c (.int .i64 1)))), (.op (some 25) none (.iad 1 (.t 20) (.t 21))), (.op none none (.st (.t 25) (.t 24)))])))) (.reg [(.op (some 26) none
  (.bin .add (.t 8) (.c (.int .i64 1)))), (.op (some 8) none (.mv (.t 26)))]))))))) (.seq (.reg [(.op (some 27) none (.mv (.t 3))), (.op (some 2) none (.mv (.t 27)))]) .ret)))),
  [(.t 2)]⟩
def k156 : KFunc := ⟨49, (.seq (.reg [(.op (some 2) none (.mv (.c (.string (bs []))))), (.op (some 3) none (.mv (.c (.bool false))))]) (.seq (.seq (.reg [(.op (some 8) none (.mv
  (.t 0))), (.op (some 9) none (.call 194 [(.t 8)])), (.op (some 10) none (.un .not (.t 9)))]) (.cond (.t 10) (.seq (.reg [(.op (some 2) none (.mv (.c (.string (bs []))))),
  (.op (some 3) none (.mv (.c (.bool false))))]) .ret) .skip)) (.seq (.reg [(.op (some 11) none (.mv (.t 0))), (.op (some 12) none (.call 195 [(.t 11)])), (.op (some 4) none (.mv
  (.t 12)))]) (.seq (.reg [(.op (some 13) none (.mv (.t 4))), (.op (some 14) none (.lenL (.t 13))), (.op (some 15) none (.bin .sub (.t 14) (.c (.int .i64 1)))),
  (.op (some 16) none (.cvt .u8 (.t 15))), (.op (some 17) none (.bsl 5 1 [(.int .u8 0)] [(0, (1, (.t 16)))])), (.op (some 5) none (.mv (.t 17)))]) (.seq (.seq
  (.reg [(.op (some 6) none (.mv (.c (.int .i64 0))))]) (.block 0 (.loop (.seq (.seq (.reg [(.op (some 18) none (.mv (.t 6))), (.op (some 19) none (.mv (.t 4))),
  (.op (some 20) none (.lenL (.t 19))), (.op (some 21) none (.bin .lss (.t 18) (.t 20)))]) (.cond (.t 21) .skip (.exit 0))) (.seq (.block 1 (.seq (.reg [(.op (some 24) none (.mv
  (.t 4))), (.op (some 25) none (.mv (.t 6))), (.op (some 26) none (.iad 1 (.t 24) (.t 25))), (.op (some 27) none (.ld (.t 26))), (.op (some 28) none (.cvt .u8 (.t 27))),
  (.op (some 7) none (.mv (.t 28)))]) (.seq (.seq (.reg [(.op (some 29) none (.mv (.t 6))), (.op (some 30) none (.bin .add (.t 29) (.c (.int .i64 1)))), (.op (some 31) none (.mv
  (.t 4))), (.op (some 32) none (.lenL (.t 31))), (.op (some 33) none (.bin .lss (.t 30) (.t 32)))]) (.cond (.t 33) (.reg [(.op (some 34) none (.mv (.t 7))), (.op (some 35) none
  (.mv (.t 4))), (.op (some 36) none (.mv (.t 6))), (.op (some 37) none (.bin .add (.t 36) (.c (.int .i64 1)))), (.op (some 38) none (.iad 1 (.t 35) (.t 37))), (.op (some 39) none
  (.ld (.t 38))), (.op (some 40) none (.cvt .u8 (.t 39))), (.op (some 41) none (.bin .shl (.t 40) (.c (.int .u64 4)))), (.op (some 42) none (.bin .or (.t 34) (.t 41))),
  (.op (some 7) none (.mv (.t 42)))]) .skip)) (.reg [(.op (some 43) none (.mv (.t 5))), (.op (some 44) none (.mv (.t 7))), (.op (some 45) none (.bsl 5 1 [(.int .u8 0)] [(0, (1,
  (.t 44)))])), (.op (some 46) none (.app 5 1 1 (.t 43) (.t 45))), (.op (some 5) none (.mv (.t 46)))])))) (.reg [(.op (some 22) none (.mv (.t 6))), (.op (some 23) none (.bin .add
  (.t 22) (.c (.int .i64 2)))), (.op (some 6) none (.mv (.t 23)))])))))) (.seq (.reg [(.op (some 47) none (.mv (.t 5))), (.op (some 48) none (.b2s 5 (.t 47))), (.op (some 2) none
  (.mv (.t 48))), (.op (some 3) none (.mv (.c (.bool true))))]) .ret)))))), [(.t 2), (.t 3)]⟩
def k157 : KFunc := ⟨53, (.seq (.reg [(.op (some 4) none (.mv (.c (.string (bs []))))), (.op (some 5) none (.mv (.c (.bool false))))]) (.seq (.reg [(.op (some 12) none (.mv
  (.t 0))), (.op (some 13) none (.call 196 [(.t 12)])), (.op (some 11) none (.mv (.t 13))), (.op (some 14) none (.xt (.t 11) 0)), (.op (some 15) none (.xt (.t 11) 1)),
  (.op (some 6) none (.mv (.t 14))), (.op (some 7) none (.mv (.t 15)))]) (.seq (.seq (.reg [(.op (some 16) none (.mv (.t 7))), (.op (some 17) none (.un .not (.t 16)))]) (.cond
  (.t 17) (.seq (.reg [(.op (some 4) none (.mv (.c (.string (bs []))))), (.op (some 5) none (.mv (.c (.bool false))))]) .ret) .skip)) (.seq (.reg [(.op (some 8) none
  (.alloc 158 [(.slice none 0 0), (.int .i64 0)]))]) (.seq (.seq (.reg [(.op (some 18) none (.mv (.t 1))), (.op (some 19) none (.lenL (.t 18))), (.op (some 20) none (.mv (.c
  (.int .i64 0))))]) (.block 0 (.loop (.seq (.reg [(.op (some 21) none (.bin .lss (.t 20) (.t 19)))]) (.seq (.cond (.t 21) .skip (.exit 0)) (.seq (.block 1 (.seq
  (.reg [(.op (some 22) none (.iad 1 (.t 18) (.t 20))), (.op (some 23) none (.ld (.t 22))), (.op (some 10) none (.mv (.t 23)))]) (.seq (.seq (.reg [(.op (some 24) none (.mv
  (.t 10))), (.op (some 25) none (.cvt .i64 (.t 24))), (.op (some 26) none (.mv (.t 0))), (.op (some 27) none (.lenL (.t 26))), (.op (some 28) none (.bin .geq (.t 25) (.t 27))),
  (.op (some 29) none (.mv (.t 28))), (.op (some 30) (some (29, false)) (.mv (.t 0))), (.op (some 31) (some (29, false)) (.mv (.t 10))), (.op (some 32) (some (29, false)) (.iad 1
  (.t 30) (.t 31))), (.op (some 33) (some (29, false)) (.ld (.t 32))), (.op (some 34) (some (29, false)) (.bin .eql (.t 33) (.c (.int .i64 0)))), (.op (some 35) none (.pick
  (.t 29) (.c (.bool true)) (.t 34)))]) (.cond (.t 35) (.seq (.reg [(.op (some 4) none (.mv (.c (.string (bs []))))), (.op (some 5) none (.mv (.c (.bool false))))]) .ret) .skip))
  (.reg [(.op (some 36) none (.mv (.t 6))), (.op (some 37) none (.mv (.t 10))), (.op (some 38) none (.iad 1 (.t 36) (.t 37))), (.op (some 39) none (.ld (.t 38))),
  (.op (some 40) none (.mv (.t 0))), (.op (some 41) none (.mv (.t 10))), (.op (some 42) none (.iad 1 (.t 40) (.t 41))), (.op (some 43) none (.ld (.t 42))), (.op (some 45) none
  (.mv (.t 0))), (.op (some 46) none (.mv (.t 10))), (.op (some 47) none (.iad 1 (.t 45) (.t 46))), (.op (some 48) none (.ld (.t 47))), (.op (some 44) none (.call 197 [(.t 39),
  (.t 43)])), (.chk 48 none (.ld (.t 47))), (.op (some 49) none (.call 111 [(.t 8), (.t 44), (.t 48)]))])))) (.reg [(.op (some 50) none (.bin .add (.t 20) (.c (.int .i64 1)))),
  (.op (some 20) none (.mv (.t 50)))]))))))) (.seq (.reg [(.op (some 51) none (.call 113 [(.t 8)])), (.op (some 52) none (.b2s 5 (.t 51))), (.op (some 4) none (.mv (.t 52))),
  (.op (some 5) none (.mv (.c (.bool true))))]) .ret)))))), [(.t 4), (.t 5)]⟩
def k175 : KFunc := ⟨48, (.seq (.reg [(.op (some 6) none (.mv (.c (.bool false))))]) (.seq (.reg [(.op (some 11) none (.mv (.t 1))), (.op (some 7) none (.mv (.t 11)))]) (.seq
  (.block 0 (.loop (.block 1 (.seq (.reg [(.op (some 12) none (.mv (.t 7))), (.op (some 13) none (.bin .mul (.c (.int .i64 2)) (.t 12))), (.op (some 14) none (.bin .add (.t 13)
  (.c (.int .i64 1)))), (.op (some 8) none (.mv (.t 14)))]) (.seq (.seq (.reg [(.op (some 15) none (.mv (.t 8))), (.op (some 16) none (.mv (.t 2))), (.op (some 17) none (.bin .geq
  (.t 15) (.t 16))), (.op (some 18) none (.mv (.t 17))), (.op (some 19) (some (18, false)) (.mv (.t 8))), (.op (some 20) (some (18, false)) (.bin .lss (.t 19) (.c
  (.int .i64 0)))), (.op (some 21) none (.pick (.t 18) (.c (.bool true)) (.t 20)))]) (.cond (.t 21) (.exit 0) .skip)) (.seq (.reg [(.op (some 22) none (.mv (.t 8))),
  (.op (some 9) none (.mv (.t 22)))]) (.seq (.seq (.reg [(.op (some 23) none (.mv (.t 8))), (.op (some 24) none (.bin .add (.t 23) (.c (.int .i64 1)))), (.op (some 10) none (.mv
  (.t 24)))]) (.seq (.reg [(.op (some 25) none (.mv (.t 10))), (.op (some 26) none (.mv (.t 2))), (.op (some 27) none (.bin .lss (.t 25) (.t 26))), (.op (some 28) none (.mv
  (.t 27))), (.op (some 29) (some (28, true)) (.mv (.t 0))), (.op (some 30) (some (28, true)) (.mv (.t 10))), (.op (some 31) (some (28, true)) (.mv (.t 8))),
  (.op (some 32) (some (28, true)) (.inv (.t 29) "Less" [(.t 30), (.t 31)])), (.op (some 33) none (.pick (.t 28) (.t 32) (.c (.bool false))))]) (.cond (.t 33)
  (.reg [(.op (some 34) none (.mv (.t 10))), (.op (some 9) none (.mv (.t 34)))]) .skip))) (.seq (.seq (.reg [(.op (some 35) none (.mv (.t 0))), (.op (some 36) none (.mv (.t 9))),
  (.op (some 37) none (.mv (.t 7))), (.op (some 38) none (.inv (.t 35) "Less" [(.t 36), (.t 37)])), (.op (some 39) none (.un .not (.t 38)))]) (.cond (.t 39) (.exit 0) .skip))
  (.seq (.reg [(.op (some 40) none (.mv (.t 0))), (.op (some 41) none (.mv (.t 7))), (.op (some 42) none (.mv (.t 9))), (.op (some 43) none (.inv (.t 40) "Swap" [(.t 41),
  (.t 42)]))]) (.reg [(.op (some 44) none (.mv (.t 9))), (.op (some 7) none (.mv (.t 44)))])))))))))) (.seq (.reg [(.op (some 45) none (.mv (.t 7))), (.op (some 46) none (.mv
  (.t 1))), (.op (some 47) none (.bin .gtr (.t 45) (.t 46))), (.op (some 6) none (.mv (.t 47)))]) .ret)))), [(.t 6)]⟩
def k176 : KFunc := ⟨23, (.block 0 (.loop (.block 1 (.seq (.reg [(.op (some 5) none (.mv (.t 1))), (.op (some 6) none (.bin .sub (.t 5) (.c (.int .i64 1)))), (.op (some 7) none
  (.bin .quo (.t 6) (.c (.int .i64 2)))), (.op (some 4) none (.mv (.t 7)))]) (.seq (.seq (.reg [(.op (some 8) none (.mv (.t 4))), (.op (some 9) none (.mv (.t 1))),
  (.op (some 10) none (.bin .eql (.t 8) (.t 9))), (.op (some 11) none (.mv (.t 10))), (.op (some 12) (some (11, false)) (.mv (.t 0))), (.op (some 13) (some (11, false)) (.mv
  (.t 1))), (.op (some 14) (some (11, false)) (.mv (.t 4))), (.op (some 15) (some (11, false)) (.inv (.t 12) "Less" [(.t 13), (.t 14)])), (.op (some 16) (some (11, false))
  (.un .not (.t 15))), (.op (some 17) none (.pick (.t 11) (.c (.bool true)) (.t 16)))]) (.cond (.t 17) (.exit 0) .skip)) (.seq (.reg [(.op (some 18) none (.mv (.t 0))),
  (.op (some 19) none (.mv (.t 4))), (.op (some 20) none (.mv (.t 1))), (.op (some 21) none (.inv (.t 18) "Swap" [(.t 19), (.t 20)]))]) (.reg [(.op (some 22) none (.mv (.t 4))),
  (.op (some 1) none (.mv (.t 22)))]))))))), []⟩
def k179 : KFunc := ⟨10, (.seq (.reg [(.op (some 2) none (.mv (.c (.int .i64 0))))]) (.seq (.seq (.reg [(.op (some 3) none (.mv (.t 0))), (.op (some 4) none (.eqv .ptr false
  (.t 3) (.c (.pointer none))))]) (.cond (.t 4) (.seq (.reg [(.op (some 2) none (.mv (.c (.int .i64 0))))]) .ret) .skip)) (.seq (.reg [(.op (some 5) none (.mv (.t 0))),
  (.op (some 6) none (.nck (.t 5))), (.op (some 7) none (.fad 0 (.t 6))), (.op (some 8) none (.ld (.t 7))), (.op (some 9) none (.lenS (.t 8))), (.op (some 2) none (.mv
  (.t 9)))]) .ret))), [(.t 2)]⟩
def k189 : KFunc := ⟨24, (.seq (.reg [(.op (some 2) none (.mv (.c (.bool false))))]) (.seq (.seq (.reg [(.op (some 5) none (.mv (.t 0))), (.op (some 6) none (.lenL (.t 5))),
  (.op (some 7) none (.bin .gtr (.t 6) (.c (.int .i64 256))))]) (.cond (.t 7) (.seq (.reg [(.op (some 2) none (.mv (.c (.bool false))))]) .ret) .skip)) (.seq (.seq
  (.reg [(.op (some 8) none (.mv (.t 0))), (.op (some 9) none (.lenL (.t 8))), (.op (some 10) none (.mv (.c (.int .i64 0))))]) (.block 0 (.loop (.seq (.reg [(.op (some 11) none
  (.bin .lss (.t 10) (.t 9)))]) (.seq (.cond (.t 11) .skip (.exit 0)) (.seq (.block 1 (.seq (.reg [(.op (some 12) none (.iad 1 (.t 8) (.t 10))), (.op (some 13) none (.ld
  (.t 12))), (.op (some 4) none (.mv (.t 13)))]) (.seq (.reg [(.op (some 14) none (.mv (.t 4))), (.op (some 15) none (.bin .lss (.t 14) (.c (.int .i64 0)))), (.op (some 16) none
  (.mv (.t 15))), (.op (some 17) (some (16, false)) (.mv (.t 4))), (.op (some 18) (some (16, false)) (.bin .gtr (.t 17) (.c (.int .i64 1048576)))), (.op (some 19) none (.pick
  (.t 16) (.c (.bool true)) (.t 18)))]) (.cond (.t 19) (.seq (.reg [(.op (some 2) none (.mv (.c (.bool false))))]) .ret) .skip)))) (.reg [(.op (some 20) none (.bin .add (.t 10)
  (.c (.int .i64 1)))), (.op (some 10) none (.mv (.t 20)))]))))))) (.seq (.reg [(.op (some 21) none (.mv (.t 0))), (.op (some 22) none (.call 217 [(.t 21)])), (.op (some 23) none
  (.bin .gtr (.t 22) (.c (.int .i64 0)))), (.op (some 2) none (.mv (.t 23)))]) .ret)))), [(.t 2)]⟩
def k190 : KFunc := ⟨78, (.seq (.reg [(.op (some 2) none (.mv (.c (.pointer none)))), (.op (some 3) none (.mv (.c (.int .i64 0))))]) (.seq (.reg [(.op (some 12) none
  (.bsl 252 0 [] [])), (.op (some 13) none (.box 287 (.t 12))), (.op (some 4) none (.mv (.t 13)))]) (.seq (.seq (.reg [(.op (some 14) none (.mv (.t 0))), (.op (some 15) none
  (.lenL (.t 14))), (.op (some 16) none (.mv (.c (.int .i64 0))))]) (.block 0 (.loop (.seq (.reg [(.op (some 17) none (.bin .lss (.t 16) (.t 15)))]) (.seq (.cond (.t 17) .skip
  (.exit 0)) (.seq (.block 1 (.seq (.reg [(.op (some 18) none (.mv (.t 16))), (.op (some 19) none (.iad 1 (.t 14) (.t 16))), (.op (some 20) none (.ld (.t 19))), (.op (some 5) none
  (.mv (.t 18))), (.op (some 6) none (.mv (.t 20)))]) (.seq (.reg [(.op (some 21) none (.mv (.t 6))), (.op (some 22) none (.bin .gtr (.t 21) (.c (.int .i64 0))))]) (.cond (.t 22)
  (.reg [(.op (some 23) none (.mv (.t 4))), (.op (some 24) none (.mv (.t 4))), (.op (some 25) none (.nck (.t 24))), (.op (some 26) none (.ld (.t 25))), (.op (some 27) none (.mv
  (.t 6))), (.op (some 28) none (.mv (.t 5))), (.op (some 29) none (.mv (.t 5))), (.op (some 30) none (.build [(.int .i64 0), (.int .i64 0), (.int .i64 0), (.pointer none),
  (.pointer none)] [(0, (1, (.t 27))), (1, (1, (.t 28))), (2, (1, (.t 29)))])), (.op (some 31) none (.box 256 (.t 30))), (.op (some 32) none (.bsl 252 1 [(.pointer none)] [(0, (1,
  (.t 31)))])), (.op (some 33) none (.app 252 1 8 (.t 26) (.t 32))), (.op (some 34) none (.nck (.t 23))), (.op none none (.st (.t 34) (.t 33)))]) .skip))))
  (.reg [(.op (some 35) none (.bin .add (.t 16) (.c (.int .i64 1)))), (.op (some 16) none (.mv (.t 35)))]))))))) (.seq (.reg [(.op (some 36) none (.mv (.t 4))),
  (.op (some 37) none (.mki 285 (.t 36))), (.op (some 38) none (.call 138 [(.t 37)]))]) (.seq (.reg [(.op (some 7) none (.mv (.c (.int .i64 0))))]) (.seq (.seq
  (.reg [(.op (some 8) none (.mv (.c (.int .i64 256))))]) (.block 2 (.loop (.seq (.seq (.reg [(.op (some 39) none (.mv (.t 4))), (.op (some 40) none (.nck (.t 39))),
  (.op (some 41) none (.ld (.t 40))), (.op (some 42) none (.call 229 [(.t 41)])), (.op (some 43) none (.bin .gtr (.t 42) (.c (.int .i64 1))))]) (.cond (.t 43) .skip (.exit 2)))
  (.seq (.block 3 (.seq (.reg [(.op (some 46) none (.mv (.t 4))), (.op (some 47) none (.call 230 [(.t 46)])), (.op (some 48) none (.mv (.t 4))), (.op (some 49) none
  (.call 230 [(.t 48)])), (.op (some 9) none (.mv (.t 47))), (.op (some 10) none (.mv (.t 49)))]) (.seq (.reg [(.op (some 50) none (.mv (.t 9))), (.op (some 51) none (.nck
  (.t 50))), (.op (some 52) none (.fad 0 (.t 51))), (.op (some 53) none (.ld (.t 52))), (.op (some 54) none (.mv (.t 10))), (.op (some 55) none (.nck (.t 54))),
  (.op (some 56) none (.fad 0 (.t 55))), (.op (some 57) none (.ld (.t 56))), (.op (some 58) none (.bin .add (.t 53) (.t 57))), (.op (some 59) none (.mv (.t 8))),
  (.op (some 60) none (.mv (.t 9))), (.op (some 61) none (.mv (.t 10))), (.op (some 62) none (.build [(.int .i64 0), (.int .i64 0), (.int .i64 0), (.pointer none),
  (.pointer none)] [(0, (1, (.t 58))), (1, (1, (.t 59))), (2, (1, (.c (.int .i64 (-1))))), (3, (1, (.t 60))), (4, (1, (.t 61)))])), (.op (some 63) none (.box 256 (.t 62))),
  (.op (some 11) none (.mv (.t 63)))]) (.seq (.reg [(.op (some 64) none (.mv (.t 7))), (.op (some 65) none (.mv (.t 11))), (.op (some 66) none (.nck (.t 65))), (.op (some 67) none
  (.fad 0 (.t 66))), (.op (some 68) none (.ld (.t 67))), (.op (some 69) none (.bin .add (.t 64) (.t 68))), (.op (some 7) none (.mv (.t 69)))]) (.reg [(.op (some 70) none (.mv
  (.t 4))), (.op (some 71) none (.mki 285 (.t 70))), (.op (some 72) none (.mv (.t 11))), (.op (some 73) none (.mki 252 (.t 72))), (.op (some 74) none (.call 141 [(.t 71),
  (.t 73)]))]))))) (.reg [(.op (some 44) none (.mv (.t 8))), (.op (some 45) none (.bin .add (.t 44) (.c (.int .i64 1)))), (.op (some 8) none (.mv (.t 45)))])))))) (.seq
  (.reg [(.op (some 75) none (.mv (.t 4))), (.op (some 76) none (.call 230 [(.t 75)])), (.op (some 77) none (.mv (.t 7))), (.op (some 2) none (.mv (.t 76))), (.op (some 3) none
  (.mv (.t 77)))]) .ret))))))), [(.t 2), (.t 3)]⟩
def k191 : KFunc := ⟨34, (.seq (.seq (.reg [(.op (some 6) none (.mv (.t 0))), (.op (some 7) none (.nck (.t 6))), (.op (some 8) none (.fad 2 (.t 7))), (.op (some 9) none (.ld
  (.t 8))), (.op (some 10) none (.bin .geq (.t 9) (.c (.int .i64 0))))]) (.cond (.t 10) (.seq (.reg [(.op (some 11) none (.mv (.t 2))), (.op (some 12) none (.mv (.t 0))),
  (.op (some 13) none (.nck (.t 12))), (.op (some 14) none (.fad 2 (.t 13))), (.op (some 15) none (.ld (.t 14))), (.op (some 16) none (.mv (.t 1))), (.op (some 17) none (.callv
  (.t 11) [(.t 15), (.t 16)]))]) .ret) .skip)) (.seq (.reg [(.op (some 18) none (.mv (.t 0))), (.op (some 19) none (.nck (.t 18))), (.op (some 20) none (.fad 3 (.t 19))),
  (.op (some 21) none (.ld (.t 20))), (.op (some 22) none (.mv (.t 1))), (.op (some 23) none (.bin .add (.t 22) (.c (.int .i64 1)))), (.op (some 24) none (.mv (.t 2))),
  (.op (some 25) none (.call 191 [(.t 21), (.t 23), (.t 24)]))]) (.reg [(.op (some 26) none (.mv (.t 0))), (.op (some 27) none (.nck (.t 26))), (.op (some 28) none (.fad 4
  (.t 27))), (.op (some 29) none (.ld (.t 28))), (.op (some 30) none (.mv (.t 1))), (.op (some 31) none (.bin .add (.t 30) (.c (.int .i64 1)))), (.op (some 32) none (.mv (.t 2))),
  (.op (some 33) none (.call 191 [(.t 29), (.t 31), (.t 32)]))]))), []⟩
def k192 : KFunc := ⟨13, (.seq (.reg [(.op (some 6) none (.ld (.t 2))), (.op (some 7) none (.mv (.t 0))), (.op (some 8) none (.mv (.t 1))), (.op (some 9) none (.iad 1 (.t 6)
  (.t 7))), (.op none none (.st (.t 9) (.t 8)))]) (.reg [(.op (some 10) none (.ld (.t 3))), (.op (some 11) none (.mv (.t 1))), (.op (some 12) none (.mx (.t 10) [(.t 11)])),
  (.op none none (.st (.t 3) (.t 12)))])), []⟩
def k194 : KFunc := ⟨38, (.seq (.reg [(.op (some 2) none (.mv (.c (.bool false))))]) (.seq (.seq (.reg [(.op (some 8) none (.mv (.t 0))), (.op (some 9) none (.call 234 [(.t 8)])),
  (.op (some 10) none (.un .not (.t 9)))]) (.cond (.t 10) (.seq (.reg [(.op (some 2) none (.mv (.c (.bool false))))]) .ret) .skip)) (.seq (.reg [(.op (some 3) none (.mv (.c
  (.int .i64 2048)))), (.op (some 4) none (.mv (.c (.int .i64 0)))), (.op (some 5) none (.mv (.c (.bool false))))]) (.seq (.seq (.reg [(.op (some 11) none (.mv (.t 0))),
  (.op (some 12) none (.lenL (.t 11))), (.op (some 13) none (.mv (.c (.int .i64 0))))]) (.block 0 (.loop (.seq (.reg [(.op (some 14) none (.bin .lss (.t 13) (.t 12)))]) (.seq
  (.cond (.t 14) .skip (.exit 0)) (.seq (.block 1 (.seq (.reg [(.op (some 15) none (.iad 1 (.t 11) (.t 13))), (.op (some 16) none (.ld (.t 15))), (.op (some 7) none (.mv
  (.t 16)))]) (.seq (.reg [(.op (some 17) none (.mv (.t 7))), (.op (some 18) none (.bin .gtr (.t 17) (.c (.int .i64 0))))]) (.cond (.t 18) (.seq (.reg [(.op (some 19) none (.mv
  (.t 3))), (.op (some 20) none (.mv (.t 7))), (.op (some 21) none (.bin .sub (.c (.int .i64 11)) (.t 20))), (.op (some 22) none (.bin .shl (.c (.int .i64 1)) (.t 21))),
  (.op (some 23) none (.bin .sub (.t 19) (.t 22))), (.op (some 3) none (.mv (.t 23)))]) (.seq (.reg [(.op (some 24) none (.mv (.t 4))), (.op (some 25) none (.bin .add (.t 24) (.c
  (.int .i64 1)))), (.op (some 4) none (.mv (.t 25)))]) (.reg [(.op (some 26) none (.mv (.t 7))), (.op (some 27) none (.bin .eql (.t 26) (.c (.int .i64 1)))), (.op (some 5) none
  (.mv (.t 27)))]))) .skip)))) (.reg [(.op (some 28) none (.bin .add (.t 13) (.c (.int .i64 1)))), (.op (some 13) none (.mv (.t 28)))]))))))) (.seq (.reg [(.op (some 29) none (.mv
  (.t 3))), (.op (some 30) none (.bin .eql (.t 29) (.c (.int .i64 0)))), (.op (some 31) none (.mv (.t 30))), (.op (some 32) (some (31, false)) (.mv (.t 4))),
  (.op (some 33) (some (31, false)) (.bin .eql (.t 32) (.c (.int .i64 1)))), (.op (some 34) (some (31, false)) (.mv (.t 33))), (.op (some 35) (some (34, true)) (.mv (.t 5))),
  (.op (some 36) (some (31, false)) (.pick (.t 34) (.t 35) (.c (.bool false)))), (.op (some 37) none (.pick (.t 31) (.c (.bool true)) (.t 36))), (.op (some 2) none (.mv
  (.t 37)))]) .ret))))), [(.t 2)]⟩
def k195 : KFunc := ⟨21, (.seq (.reg [(.op (some 2) none (.mv (.c (.slice none 0 0))))]) (.seq (.reg [(.op (some 4) none (.mv (.t 0))), (.op (some 5) none (.lenL (.t 4))),
  (.op (some 3) none (.mv (.t 5)))]) (.seq (.block 0 (.loop (.seq (.seq (.reg [(.op (some 6) none (.mv (.t 3))), (.op (some 7) none (.bin .gtr (.t 6) (.c (.int .i64 0)))),
  (.op (some 8) none (.mv (.t 7))), (.op (some 9) (some (8, true)) (.mv (.t 0))), (.op (some 10) (some (8, true)) (.mv (.t 3))), (.op (some 11) (some (8, true)) (.bin .sub (.t 10)
  (.c (.int .i64 1)))), (.op (some 12) (some (8, true)) (.iad 1 (.t 9) (.t 11))), (.op (some 13) (some (8, true)) (.ld (.t 12))), (.op (some 14) (some (8, true)) (.bin .eql
  (.t 13) (.c (.int .i64 0)))), (.op (some 15) none (.pick (.t 8) (.t 14) (.c (.bool false))))]) (.cond (.t 15) .skip (.exit 0))) (.block 1 (.reg [(.op (some 16) none (.mv
  (.t 3))), (.op (some 17) none (.bin .sub (.t 16) (.c (.int .i64 1)))), (.op (some 3) none (.mv (.t 17)))]))))) (.seq (.reg [(.op (some 18) none (.mv (.t 0))),
  (.op (some 19) none (.mv (.t 3))), (.op (some 20) none (.slc 3 1 (.t 18) none (some (.t 19)))), (.op (some 2) none (.mv (.t 20)))]) .ret)))), [(.t 2)]⟩
def k196 : KFunc := ⟨39, (.seq (.reg [(.op (some 2) none (.mv (.c (.slice none 0 0)))), (.op (some 3) none (.mv (.c (.bool false))))]) (.seq (.seq (.reg [(.op (some 9) none (.mv
  (.t 0))), (.op (some 10) none (.call 194 [(.t 9)])), (.op (some 11) none (.un .not (.t 10)))]) (.cond (.t 11) (.seq (.reg [(.op (some 2) none (.mv (.c (.slice none 0 0)))),
  (.op (some 3) none (.mv (.c (.bool false))))]) .ret) .skip)) (.seq (.reg [(.op (some 12) none (.mv (.t 0))), (.op (some 13) none (.lenL (.t 12))), (.op (some 14) none
  (.mks 3 [(.int .i64 0)] 8 (.t 13) (.t 13))), (.op (some 4) none (.mv (.t 14)))]) (.seq (.reg [(.op (some 5) none (.mv (.c (.int .i64 0))))]) (.seq (.seq
  (.reg [(.op (some 6) none (.mv (.c (.int .i64 1))))]) (.block 0 (.loop (.seq (.seq (.reg [(.op (some 15) none (.mv (.t 6))), (.op (some 16) none (.bin .leq (.t 15) (.c
  (.int .i64 11))))]) (.cond (.t 16) .skip (.exit 0))) (.seq (.block 1 (.seq (.seq (.reg [(.op (some 19) none (.mv (.t 0))), (.op (some 20) none (.lenL (.t 19))),
  (.op (some 21) none (.mv (.c (.int .i64 0))))]) (.block 2 (.loop (.seq (.reg [(.op (some 22) none (.bin .lss (.t 21) (.t 20)))]) (.seq (.cond (.t 22) .skip (.exit 2)) (.seq
  (.block 3 (.seq (.reg [(.op (some 23) none (.mv (.t 21))), (.op (some 24) none (.iad 1 (.t 19) (.t 21))), (.op (some 25) none (.ld (.t 24))), (.op (some 7) none (.mv (.t 23))),
  (.op (some 8) none (.mv (.t 25)))]) (.seq (.reg [(.op (some 26) none (.mv (.t 8))), (.op (some 27) none (.mv (.t 6))), (.op (some 28) none (.bin .eql (.t 26) (.t 27)))]) (.cond
  (.t 28) (.seq (.reg [(.op (some 29) none (.mv (.t 4))), (.op (some 30) none (.mv (.t 7))), (.op (some 31) none (.mv (.t 5))), (.op (some 32) none (.iad 1 (.t 29) (.t 30))),
  (.op none none (.st (.t 32) (.t 31)))]) (.reg [(.op (some 33) none (.mv (.t 5))), (.op (some 34) none (.bin .add (.t 33) (.c (.int .i64 1)))), (.op (some 5) none (.mv
  (.t 34)))])) .skip)))) (.reg [(.op (some 35) none (.bin .add (.t 21) (.c (.int .i64 1)))), (.op (some 21) none (.mv (.t 35)))]))))))) (.reg [(.op (some 36) none (.mv (.t 5))),
  (.op (some 37) none (.bin .shl (.t 36) (.c (.int .u64 1)))), (.op (some 5) none (.mv (.t 37)))]))) (.reg [(.op (some 17) none (.mv (.t 6))), (.op (some 18) none (.bin .add
  (.t 17) (.c (.int .i64 1)))), (.op (some 6) none (.mv (.t 18)))])))))) (.seq (.reg [(.op (some 38) none (.mv (.t 4))), (.op (some 2) none (.mv (.t 38))), (.op (some 3) none (.mv
  (.c (.bool true))))]) .ret)))))), [(.t 2), (.t 3)]⟩
def k197 : KFunc := ⟨19, (.seq (.reg [(.op (some 4) none (.mv (.c (.int .u32 0))))]) (.seq (.reg [(.op (some 5) none (.mv (.c (.int .u32 0))))]) (.seq (.seq
  (.reg [(.op (some 6) none (.mv (.t 1))), (.op (some 7) none (.mv (.c (.int .i64 0))))]) (.block 0 (.loop (.seq (.reg [(.op (some 8) none (.bin .lss (.t 7) (.t 6)))]) (.seq
  (.cond (.t 8) .skip (.exit 0)) (.seq (.block 1 (.seq (.reg [(.op (some 9) none (.mv (.t 5))), (.op (some 10) none (.bin .shl (.t 9) (.c (.int .u64 1)))), (.op (some 11) none
  (.mv (.t 0))), (.op (some 12) none (.bin .and (.t 11) (.c (.int .i64 1)))), (.op (some 13) none (.cvt .u32 (.t 12))), (.op (some 14) none (.bin .or (.t 10) (.t 13))),
  (.op (some 5) none (.mv (.t 14)))]) (.reg [(.op (some 15) none (.mv (.t 0))), (.op (some 16) none (.bin .shr (.t 15) (.c (.int .u64 1)))), (.op (some 0) none (.mv (.t 16)))])))
  (.reg [(.op (some 17) none (.bin .add (.t 7) (.c (.int .i64 1)))), (.op (some 7) none (.mv (.t 17)))]))))))) (.seq (.reg [(.op (some 18) none (.mv (.t 5))), (.op (some 4) none
  (.mv (.t 18)))]) .ret)))), [(.t 4)]⟩
def k209 : KFunc := ⟨25, (.seq (.reg [(.op (some 2) none (.mv (.c (.bool false))))]) (.seq (.seq (.reg [(.op (some 3) none (.mv (.c (.int .i64 0))))]) (.block 0 (.loop (.seq (.seq
  (.reg [(.op (some 4) none (.mv (.t 3))), (.op (some 5) none (.mv (.t 0))), (.op (some 6) none (.lenL (.t 5))), (.op (some 7) none (.bin .lss (.t 4) (.t 6)))]) (.cond
  (.t 7) .skip (.exit 0))) (.seq (.block 1 (.seq (.reg [(.op (some 10) none (.mv (.t 0))), (.op (some 11) none (.mv (.t 3))), (.op (some 12) none (.iad 1 (.t 10) (.t 11))),
  (.op (some 13) none (.ld (.t 12))), (.op (some 14) none (.bin .lss (.t 13) (.c (.int .i64 0)))), (.op (some 15) none (.mv (.t 14))), (.op (some 16) (some (15, false)) (.mv
  (.t 0))), (.op (some 17) (some (15, false)) (.mv (.t 3))), (.op (some 18) (some (15, false)) (.iad 1 (.t 16) (.t 17))), (.op (some 19) (some (15, false)) (.ld (.t 18))),
  (.op (some 20) (some (15, false)) (.bin .gtr (.t 19) (.c (.int .i64 11)))), (.op (some 21) none (.pick (.t 15) (.c (.bool true)) (.t 20)))]) (.cond (.t 21) (.seq
  (.reg [(.op (some 2) none (.mv (.c (.bool false))))]) .ret) .skip))) (.reg [(.op (some 8) none (.mv (.t 3))), (.op (some 9) none (.bin .add (.t 8) (.c (.int .i64 1)))),
  (.op (some 3) none (.mv (.t 9)))])))))) (.seq (.reg [(.op (some 22) none (.mv (.t 0))), (.op (some 23) none (.lenL (.t 22))), (.op (some 24) none (.bin .leq (.t 23) (.c
  (.int .i64 256)))), (.op (some 2) none (.mv (.t 24)))]) .ret))), [(.t 2)]⟩
def k217 : KFunc := ⟨17, (.seq (.reg [(.op (some 2) none (.mv (.c (.int .i64 0))))]) (.seq (.reg [(.op (some 3) none (.mv (.c (.int .i64 0))))]) (.seq (.seq
  (.reg [(.op (some 6) none (.mv (.t 0))), (.op (some 7) none (.lenL (.t 6))), (.op (some 8) none (.mv (.c (.int .i64 0))))]) (.block 0 (.loop (.seq (.reg [(.op (some 9) none
  (.bin .lss (.t 8) (.t 7)))]) (.seq (.cond (.t 9) .skip (.exit 0)) (.seq (.block 1 (.seq (.reg [(.op (some 10) none (.iad 1 (.t 6) (.t 8))), (.op (some 11) none (.ld (.t 10))),
  (.op (some 5) none (.mv (.t 11)))]) (.reg [(.op (some 12) none (.mv (.t 3))), (.op (some 13) none (.mv (.t 5))), (.op (some 14) none (.bin .add (.t 12) (.t 13))),
  (.op (some 3) none (.mv (.t 14)))]))) (.reg [(.op (some 15) none (.bin .add (.t 8) (.c (.int .i64 1)))), (.op (some 8) none (.mv (.t 15)))]))))))) (.seq
  (.reg [(.op (some 16) none (.mv (.t 3))), (.op (some 2) none (.mv (.t 16)))]) .ret)))), [(.t 2)]⟩
def k229 : KFunc := ⟨5, (.seq (.reg [(.op (some 2) none (.mv (.c (.int .i64 0))))]) (.seq (.reg [(.op (some 3) none (.mv (.t 0))), (.op (some 4) none (.lenL (.t 3))),
  (.op (some 2) none (.mv (.t 4)))]) .ret)), [(.t 2)]⟩
def k230 : KFunc := ⟨13, (.seq (.reg [(.op (some 2) none (.mv (.c (.pointer none))))]) (.seq (.reg [(.op (some 6) none (.mv (.t 0))), (.op (some 7) none (.mki 285 (.t 6))),
  (.op (some 8) none (.call 140 [(.t 7)])), (.op (some 9) none (.tas 252 (.pointer none) true (.t 8))), (.op (some 5) none (.mv (.t 9))), (.op (some 10) none (.xt (.t 5) 0)),
  (.op (some 11) none (.xt (.t 5) 1)), (.op (some 3) none (.mv (.t 10))), (.op (some 4) none (.mv (.t 11)))]) (.seq (.reg [(.op (some 12) none (.mv (.t 3))), (.op (some 2) none
  (.mv (.t 12)))]) .ret))), [(.t 2)]⟩
def k233 : KFunc := ⟨20, (.seq (.reg [(.op (some 4) none (.mv (.c (.int .i64 0))))]) (.seq (.reg [(.op (some 7) none (.mv (.t 0))), (.op (some 8) none (.call 249 [(.t 7)])),
  (.op (some 5) none (.mv (.t 8)))]) (.seq (.reg [(.op (some 9) none (.mv (.t 1))), (.op (some 10) none (.call 249 [(.t 9)])), (.op (some 6) none (.mv (.t 10)))]) (.seq (.seq
  (.reg [(.op (some 11) none (.mv (.t 5)))]) (.cond (.t 11) (.seq (.seq (.reg [(.op (some 12) none (.mv (.t 6)))]) (.cond (.t 12) (.seq (.reg [(.op (some 4) none (.mv (.c
  (.int .i64 0))))]) .ret) .skip)) (.seq (.reg [(.op (some 4) none (.mv (.c (.int .i64 (-1)))))]) .ret)) .skip)) (.seq (.seq (.reg [(.op (some 13) none (.mv (.t 6)))]) (.cond
  (.t 13) (.seq (.reg [(.op (some 4) none (.mv (.c (.int .i64 1))))]) .ret) .skip)) (.seq (.seq (.reg [(.op (some 14) none (.mv (.t 0))), (.op (some 15) none (.mv (.t 1))),
  (.op (some 16) none (.bin .lss (.t 14) (.t 15)))]) (.cond (.t 16) (.seq (.reg [(.op (some 4) none (.mv (.c (.int .i64 (-1)))))]) .ret) .skip)) (.seq (.seq
  (.reg [(.op (some 17) none (.mv (.t 0))), (.op (some 18) none (.mv (.t 1))), (.op (some 19) none (.bin .gtr (.t 17) (.t 18)))]) (.cond (.t 19) (.seq (.reg [(.op (some 4) none
  (.mv (.c (.int .i64 1))))]) .ret) .skip)) (.seq (.reg [(.op (some 4) none (.mv (.c (.int .i64 0))))]) .ret)))))))), [(.t 4)]⟩
def k234 : KFunc := ⟨21, (.seq (.reg [(.op (some 2) none (.mv (.c (.bool false))))]) (.seq (.seq (.reg [(.op (some 5) none (.mv (.t 0))), (.op (some 6) none (.lenL (.t 5))),
  (.op (some 7) none (.mv (.c (.int .i64 0))))]) (.block 0 (.loop (.seq (.reg [(.op (some 8) none (.bin .lss (.t 7) (.t 6)))]) (.seq (.cond (.t 8) .skip (.exit 0)) (.seq (.block 1
  (.seq (.reg [(.op (some 9) none (.iad 1 (.t 5) (.t 7))), (.op (some 10) none (.ld (.t 9))), (.op (some 4) none (.mv (.t 10)))]) (.seq (.reg [(.op (some 11) none (.mv (.t 4))),
  (.op (some 12) none (.bin .lss (.t 11) (.c (.int .i64 0)))), (.op (some 13) none (.mv (.t 12))), (.op (some 14) (some (13, false)) (.mv (.t 4))), (.op (some 15) (some (13,
  false)) (.bin .gtr (.t 14) (.c (.int .i64 11)))), (.op (some 16) none (.pick (.t 13) (.c (.bool true)) (.t 15)))]) (.cond (.t 16) (.seq (.reg [(.op (some 2) none (.mv (.c
  (.bool false))))]) .ret) .skip)))) (.reg [(.op (some 17) none (.bin .add (.t 7) (.c (.int .i64 1)))), (.op (some 7) none (.mv (.t 17)))]))))))) (.seq (.reg [(.op (some 18) none
  (.mv (.t 0))), (.op (some 19) none (.lenL (.t 18))), (.op (some 20) none (.bin .leq (.t 19) (.c (.int .i64 256)))), (.op (some 2) none (.mv (.t 20)))]) .ret))), [(.t 2)]⟩
def k249 : KFunc := ⟨6, (.seq (.reg [(.op (some 2) none (.mv (.c (.bool false))))]) (.seq (.reg [(.op (some 3) none (.mv (.t 0))), (.op (some 4) none (.mv (.t 0))),
  (.op (some 5) none (.bin .neq (.t 3) (.t 4))), (.op (some 2) none (.mv (.t 5)))]) .ret)), [(.t 2)]⟩
def k283 : KFunc := ⟨18, (.seq (.reg [(.op (some 2) none (.mv (.c (.int .i64 0))))]) (.seq (.reg [(.op (some 3) none (.mv (.c (.int .i64 0))))]) (.seq (.seq
  (.reg [(.op (some 6) none (.mv (.t 0))), (.op (some 7) none (.lenL (.t 6))), (.op (some 8) none (.mv (.c (.int .i64 0))))]) (.block 0 (.loop (.seq (.reg [(.op (some 9) none
  (.bin .lss (.t 8) (.t 7)))]) (.seq (.cond (.t 9) .skip (.exit 0)) (.seq (.block 1 (.seq (.reg [(.op (some 10) none (.iad 1 (.t 6) (.t 8))), (.op (some 11) none (.ld (.t 10))),
  (.op (some 5) none (.mv (.t 11)))]) (.seq (.reg [(.op (some 12) none (.mv (.t 5))), (.op (some 13) none (.mv (.t 3))), (.op (some 14) none (.bin .neq (.t 12) (.t 13)))]) (.cond
  (.t 14) (.seq (.reg [(.op (some 15) none (.mv (.t 5))), (.op (some 2) none (.mv (.t 15)))]) .ret) .skip)))) (.reg [(.op (some 16) none (.bin .add (.t 8) (.c (.int .i64 1)))),
  (.op (some 8) none (.mv (.t 16)))]))))))) (.seq (.reg [(.op (some 17) none (.mv (.t 3))), (.op (some 2) none (.mv (.t 17)))]) .ret)))), [(.t 2)]⟩
def k285 : KFunc := ⟨40, (.seq (.reg [(.op (some 6) none (.mv (.c (.bool false))))]) (.seq (.reg [(.op (some 7) none (.mv (.t 0))), (.op (some 8) none (.mv (.t 1))),
  (.op (some 9) none (.iad 1 (.t 7) (.t 8))), (.op (some 10) none (.ld (.t 9))), (.op (some 11) none (.nck (.t 10))), (.op (some 12) none (.fad 0 (.t 11))), (.op (some 13) none
  (.ld (.t 12))), (.op (some 14) none (.mv (.t 0))), (.op (some 15) none (.mv (.t 2))), (.op (some 16) none (.iad 1 (.t 14) (.t 15))), (.op (some 17) none (.ld (.t 16))),
  (.op (some 18) none (.nck (.t 17))), (.op (some 19) none (.fad 0 (.t 18))), (.op (some 20) none (.ld (.t 19))), (.op (some 22) none (.mv (.t 0))), (.op (some 23) none (.mv
  (.t 1))), (.op (some 24) none (.iad 1 (.t 22) (.t 23))), (.op (some 25) none (.ld (.t 24))), (.op (some 26) none (.nck (.t 25))), (.op (some 27) none (.fad 1 (.t 26))),
  (.op (some 28) none (.ld (.t 27))), (.op (some 29) none (.mv (.t 0))), (.op (some 30) none (.mv (.t 2))), (.op (some 31) none (.iad 1 (.t 29) (.t 30))), (.op (some 32) none (.ld
  (.t 31))), (.op (some 33) none (.nck (.t 32))), (.op (some 34) none (.fad 1 (.t 33))), (.op (some 35) none (.ld (.t 34))), (.op (some 21) none (.call 233 [(.t 13), (.t 20)])),
  (.chk 25 none (.ld (.t 24))), (.chk 28 none (.ld (.t 27))), (.chk 32 none (.ld (.t 31))), (.chk 35 none (.ld (.t 34))), (.op (some 36) none (.call 233 [(.t 28), (.t 35)])),
  (.op (some 37) none (.bsl 3 2 [(.int .i64 0), (.int .i64 0)] [(0, (1, (.t 21))), (1, (1, (.t 36)))])), (.op (some 38) none (.call 283 [(.t 37)])), (.op (some 39) none (.bin .lss
  (.t 38) (.c (.int .i64 0)))), (.op (some 6) none (.mv (.t 39)))]) .ret)), [(.t 6)]⟩
def k286 : KFunc := ⟨25, (.seq (.reg [(.op (some 2) none (.mv (.c .nilIface)))]) (.seq (.reg [(.op (some 5) none (.mv (.t 0))), (.op (some 6) none (.nck (.t 5))),
  (.op (some 7) none (.ld (.t 6))), (.op (some 8) none (.lenL (.t 7))), (.op (some 9) none (.bin .sub (.t 8) (.c (.int .i64 1)))), (.op (some 3) none (.mv (.t 9)))]) (.seq
  (.reg [(.op (some 10) none (.mv (.t 0))), (.op (some 11) none (.nck (.t 10))), (.op (some 12) none (.ld (.t 11))), (.op (some 13) none (.mv (.t 3))), (.op (some 14) none (.iad 1
  (.t 12) (.t 13))), (.op (some 15) none (.ld (.t 14))), (.op (some 4) none (.mv (.t 15)))]) (.seq (.reg [(.op (some 16) none (.mv (.t 0))), (.op (some 17) none (.mv (.t 0))),
  (.op (some 18) none (.nck (.t 17))), (.op (some 19) none (.ld (.t 18))), (.op (some 20) none (.mv (.t 3))), (.op (some 21) none (.slc 252 1 (.t 19) none (some (.t 20)))),
  (.op (some 22) none (.nck (.t 16))), (.op none none (.st (.t 22) (.t 21)))]) (.seq (.reg [(.op (some 23) none (.mv (.t 4))), (.op (some 24) none (.mki 252 (.t 23))),
  (.op (some 2) none (.mv (.t 24)))]) .ret))))), [(.t 2)]⟩
def k287 : KFunc := ⟨20, (.seq (.reg [(.op (some 7) none (.mv (.t 1))), (.op (some 8) none (.tas 252 (.pointer none) true (.t 7))), (.op (some 6) none (.mv (.t 8))),
  (.op (some 9) none (.xt (.t 6) 0)), (.op (some 10) none (.xt (.t 6) 1)), (.op (some 4) none (.mv (.t 9))), (.op (some 5) none (.mv (.t 10)))]) (.seq (.reg [(.op (some 11) none
  (.mv (.t 5)))]) (.cond (.t 11) (.reg [(.op (some 12) none (.mv (.t 0))), (.op (some 13) none (.mv (.t 0))), (.op (some 14) none (.nck (.t 13))), (.op (some 15) none (.ld
  (.t 14))), (.op (some 16) none (.mv (.t 4))), (.op (some 17) none (.bsl 252 1 [(.pointer none)] [(0, (1, (.t 16)))])), (.op (some 18) none (.app 252 1 8 (.t 15) (.t 17))),
  (.op (some 19) none (.nck (.t 12))), (.op none none (.st (.t 19) (.t 18)))]) .skip))), []⟩
def k288 : KFunc := ⟨20, (.reg [(.op (some 6) none (.mv (.t 0))), (.op (some 7) none (.mv (.t 1))), (.op (some 8) none (.mv (.t 0))), (.op (some 9) none (.mv (.t 2))),
  (.op (some 10) none (.mv (.t 0))), (.op (some 11) none (.mv (.t 2))), (.op (some 12) none (.iad 1 (.t 10) (.t 11))), (.op (some 13) none (.ld (.t 12))), (.op (some 14) none (.mv
  (.t 0))), (.op (some 15) none (.mv (.t 1))), (.op (some 16) none (.iad 1 (.t 14) (.t 15))), (.op (some 17) none (.ld (.t 16))), (.op (some 18) none (.iad 1 (.t 6) (.t 7))),
  (.op none none (.st (.t 18) (.t 13))), (.op (some 19) none (.iad 1 (.t 8) (.t 9))), (.op none none (.st (.t 19) (.t 17)))]), []⟩
theorem c8 : okFunc Go.Proofs.Tryz.prog 8 = true ∧ ∃ fn, Go.Proofs.Tryz.prog.funcs[8]? = some fn ∧ cFunc Go.Proofs.Tryz.prog fn = some k8 := ⟨by kernel_rfl, Go.Proofs.Tryz.f8, Go.Proofs.Tryz.func8, by kernel_rfl⟩
theorem c15 : okFunc Go.Proofs.Tryz.prog 15 = true ∧ ∃ fn, Go.Proofs.Tryz.prog.funcs[15]? = some fn ∧ cFunc Go.Proofs.Tryz.prog fn = some k15 := ⟨by kernel_rfl, Go.Proofs.Tryz.f15, Go.Proofs.Tryz.func15, by kernel_rfl⟩
theorem c16 : okFunc Go.Proofs.Tryz.prog 16 = true ∧ ∃ fn, Go.Proofs.Tryz.prog.funcs[16]? = some fn ∧ cFunc Go.Proofs.Tryz.prog fn = some k16 := ⟨by kernel_rfl, Go.Proofs.Tryz.f16, Go.Proofs.Tryz.func16, by kernel_rfl⟩
theorem c20 : okFunc Go.Proofs.Tryz.prog 20 = true ∧ ∃ fn, Go.Proofs.Tryz.prog.funcs[20]? = some fn ∧ cFunc Go.Proofs.Tryz.prog fn = some k20 := ⟨by kernel_rfl, Go.Proofs.Tryz.f20, Go.Proofs.Tryz.func20, by kernel_rfl⟩
theorem c22 : okFunc Go.Proofs.Tryz.prog 22 = true ∧ ∃ fn, Go.Proofs.Tryz.prog.funcs[22]? = some fn ∧ cFunc Go.Proofs.Tryz.prog fn = some k22 := ⟨by kernel_rfl, Go.Proofs.Tryz.f22, Go.Proofs.Tryz.func22, by kernel_rfl⟩
theorem c23 : okFunc Go.Proofs.Tryz.prog 23 = true ∧ ∃ fn, Go.Proofs.Tryz.prog.funcs[23]? = some fn ∧ cFunc Go.Proofs.Tryz.prog fn = some k23 := ⟨by kernel_rfl, Go.Proofs.Tryz.f23, Go.Proofs.Tryz.func23, by kernel_rfl⟩
theorem c26 : okFunc Go.Proofs.Tryz.prog 26 = true ∧ ∃ fn, Go.Proofs.Tryz.prog.funcs[26]? = some fn ∧ cFunc Go.Proofs.Tryz.prog fn = some k26 := ⟨by kernel_rfl, Go.Proofs.Tryz.f26, Go.Proofs.Tryz.func26, by kernel_rfl⟩
theorem c27 : okFunc Go.Proofs.Tryz.prog 27 = true ∧ ∃ fn, Go.Proofs.Tryz.prog.funcs[27]? = some fn ∧ cFunc Go.Proofs.Tryz.prog fn = some k27 := ⟨by kernel_rfl, Go.Proofs.Tryz.f27, Go.Proofs.Tryz.func27, by kernel_rfl⟩
theorem c28 : okFunc Go.Proofs.Tryz.prog 28 = true ∧ ∃ fn, Go.Proofs.Tryz.prog.funcs[28]? = some fn ∧ cFunc Go.Proofs.Tryz.prog fn = some k28 := ⟨by kernel_rfl, Go.Proofs.Tryz.f28, Go.Proofs.Tryz.func28, by kernel_rfl⟩
theorem c29 : okFunc Go.Proofs.Tryz.prog 29 = true ∧ ∃ fn, Go.Proofs.Tryz.prog.funcs[29]? = some fn ∧ cFunc Go.Proofs.Tryz.prog fn = some k29 := ⟨by kernel_rfl, Go.Proofs.Tryz.f29, Go.Proofs.Tryz.func29, by kernel_rfl⟩
theorem c30 : okFunc Go.Proofs.Tryz.prog 30 = true ∧ ∃ fn, Go.Proofs.Tryz.prog.funcs[30]? = some fn ∧ cFunc Go.Proofs.Tryz.prog fn = some k30 := ⟨by kernel_rfl, Go.Proofs.Tryz.f30, Go.Proofs.Tryz.func30, by kernel_rfl⟩
theorem c31 : okFunc Go.Proofs.Tryz.prog 31 = true ∧ ∃ fn, Go.Proofs.Tryz.prog.funcs[31]? = some fn ∧ cFunc Go.Proofs.Tryz.prog fn = some k31 := ⟨by kernel_rfl, Go.Proofs.Tryz.f31, Go.Proofs.Tryz.func31, by kernel_rfl⟩
theorem c47 : okFunc Go.Proofs.Tryz.prog 47 = true ∧ ∃ fn, Go.Proofs.Tryz.prog.funcs[47]? = some fn ∧ cFunc Go.Proofs.Tryz.prog fn = some k47 := ⟨by kernel_rfl, Go.Proofs.Tryz.f47, Go.Proofs.Tryz.func47, by kernel_rfl⟩
theorem c48 : okFunc Go.Proofs.Tryz.prog 48 = true ∧ ∃ fn, Go.Proofs.Tryz.prog.funcs[48]? = some fn ∧ cFunc Go.Proofs.Tryz.prog fn = some k48 := ⟨by kernel_rfl, Go.Proofs.Tryz.f48, Go.Proofs.Tryz.func48, by kernel_rfl⟩
theorem c49 : okFunc Go.Proofs.Tryz.prog 49 = true ∧ ∃ fn, Go.Proofs.Tryz.prog.funcs[49]? = some fn ∧ cFunc Go.Proofs.Tryz.prog fn = some k49 := ⟨by kernel_rfl, Go.Proofs.Tryz.f49, Go.Proofs.Tryz.func49, by kernel_rfl⟩
theorem c50 : okFunc Go.Proofs.Tryz.prog 50 = true ∧ ∃ fn, Go.Proofs.Tryz.prog.funcs[50]? = some fn ∧ cFunc Go.Proofs.Tryz.prog fn = some k50 := ⟨by kernel_rfl, Go.Proofs.Tryz.f50, Go.Proofs.Tryz.func50, by kernel_rfl⟩
theorem c51 : okFunc Go.Proofs.Tryz.prog 51 = true ∧ ∃ fn, Go.Proofs.Tryz.prog.funcs[51]? = some fn ∧ cFunc Go.Proofs.Tryz.prog fn = some k51 := ⟨by kernel_rfl, Go.Proofs.Tryz.f51, Go.Proofs.Tryz.func51, by kernel_rfl⟩
theorem c52 : okFunc Go.Proofs.Tryz.prog 52 = true ∧ ∃ fn, Go.Proofs.Tryz.prog.funcs[52]? = some fn ∧ cFunc Go.Proofs.Tryz.prog fn = some k52 := ⟨by kernel_rfl, Go.Proofs.Tryz.f52, Go.Proofs.Tryz.func52, by kernel_rfl⟩
theorem c53 : okFunc Go.Proofs.Tryz.prog 53 = true ∧ ∃ fn, Go.Proofs.Tryz.prog.funcs[53]? = some fn ∧ cFunc Go.Proofs.Tryz.prog fn = some k53 := ⟨by kernel_rfl, Go.Proofs.Tryz.f53, Go.Proofs.Tryz.func53, by kernel_rfl⟩
theorem c54 : okFunc Go.Proofs.Tryz.prog 54 = true ∧ ∃ fn, Go.Proofs.Tryz.prog.funcs[54]? = some fn ∧ cFunc Go.Proofs.Tryz.prog fn = some k54 := ⟨by kernel_rfl, Go.Proofs.Tryz.f54, Go.Proofs.Tryz.func54, by kernel_rfl⟩
theorem c60 : okFunc Go.Proofs.Tryz.prog 60 = true ∧ ∃ fn, Go.Proofs.Tryz.prog.funcs[60]? = some fn ∧ cFunc Go.Proofs.Tryz.prog fn = some k60 := ⟨by kernel_rfl, Go.Proofs.Tryz.f60, Go.Proofs.Tryz.func60, by kernel_rfl⟩
theorem c61 : okFunc Go.Proofs.Tryz.prog 61 = true ∧ ∃ fn, Go.Proofs.Tryz.prog.funcs[61]? = some fn ∧ cFunc Go.Proofs.Tryz.prog fn = some k61 := ⟨by kernel_rfl, Go.Proofs.Tryz.f61, Go.Proofs.Tryz.func61, by kernel_rfl⟩
theorem c62 : okFunc Go.Proofs.Tryz.prog 62 = true ∧ ∃ fn, Go.Proofs.Tryz.prog.funcs[62]? = some fn ∧ cFunc Go.Proofs.Tryz.prog fn = some k62 := ⟨by kernel_rfl, Go.Proofs.Tryz.f62, Go.Proofs.Tryz.func62, by kernel_rfl⟩
theorem c63 : okFunc Go.Proofs.Tryz.prog 63 = true ∧ ∃ fn, Go.Proofs.Tryz.prog.funcs[63]? = some fn ∧ cFunc Go.Proofs.Tryz.prog fn = some k63 := ⟨by kernel_rfl, Go.Proofs.Tryz.f63, Go.Proofs.Tryz.func63, by kernel_rfl⟩
theorem c64 : okFunc Go.Proofs.Tryz.prog 64 = true ∧ ∃ fn, Go.Proofs.Tryz.prog.funcs[64]? = some fn ∧ cFunc Go.Proofs.Tryz.prog fn = some k64 := ⟨by kernel_rfl, Go.Proofs.Tryz.f64, Go.Proofs.Tryz.func64, by kernel_rfl⟩
theorem c65 : okFunc Go.Proofs.Tryz.prog 65 = true ∧ ∃ fn, Go.Proofs.Tryz.prog.funcs[65]? = some fn ∧ cFunc Go.Proofs.Tryz.prog fn = some k65 := ⟨by kernel_rfl, Go.Proofs.Tryz.f65, Go.Proofs.Tryz.func65, by kernel_rfl⟩
theorem c73 : okFunc Go.Proofs.Tryz.prog 73 = true ∧ ∃ fn, Go.Proofs.Tryz.prog.funcs[73]? = some fn ∧ cFunc Go.Proofs.Tryz.prog fn = some k73 := ⟨by kernel_rfl, Go.Proofs.Tryz.f73, Go.Proofs.Tryz.func73, by kernel_rfl⟩
theorem c74 : okFunc Go.Proofs.Tryz.prog 74 = true ∧ ∃ fn, Go.Proofs.Tryz.prog.funcs[74]? = some fn ∧ cFunc Go.Proofs.Tryz.prog fn = some k74 := ⟨by kernel_rfl, Go.Proofs.Tryz.f74, Go.Proofs.Tryz.func74, by kernel_rfl⟩
theorem c75 : okFunc Go.Proofs.Tryz.prog 75 = true ∧ ∃ fn, Go.Proofs.Tryz.prog.funcs[75]? = some fn ∧ cFunc Go.Proofs.Tryz.prog fn = some k75 := ⟨by kernel_rfl, Go.Proofs.Tryz.f75, Go.Proofs.Tryz.func75, by kernel_rfl⟩
theorem c76 : okFunc Go.Proofs.Tryz.prog 76 = true ∧ ∃ fn, Go.Proofs.Tryz.prog.funcs[76]? = some fn ∧ cFunc Go.Proofs.Tryz.prog fn = some k76 := ⟨by kernel_rfl, Go.Proofs.Tryz.f76, Go.Proofs.Tryz.func76, by kernel_rfl⟩
theorem c78 : okFunc Go.Proofs.Tryz.prog 78 = true ∧ ∃ fn, Go.Proofs.Tryz.prog.funcs[78]? = some fn ∧ cFunc Go.Proofs.Tryz.prog fn = some k78 := ⟨by kernel_rfl, Go.Proofs.Tryz.f78, Go.Proofs.Tryz.func78, by kernel_rfl⟩
theorem c79 : okFunc Go.Proofs.Tryz.prog 79 = true ∧ ∃ fn, Go.Proofs.Tryz.prog.funcs[79]? = some fn ∧ cFunc Go.Proofs.Tryz.prog fn = some k79 := ⟨by kernel_rfl, Go.Proofs.Tryz.f79, Go.Proofs.Tryz.func79, by kernel_rfl⟩
theorem c80 : okFunc Go.Proofs.Tryz.prog 80 = true ∧ ∃ fn, Go.Proofs.Tryz.prog.funcs[80]? = some fn ∧ cFunc Go.Proofs.Tryz.prog fn = some k80 := ⟨by kernel_rfl, Go.Proofs.Tryz.f80, Go.Proofs.Tryz.func80, by kernel_rfl⟩
theorem c81 : okFunc Go.Proofs.Tryz.prog 81 = true ∧ ∃ fn, Go.Proofs.Tryz.prog.funcs[81]? = some fn ∧ cFunc Go.Proofs.Tryz.prog fn = some k81 := ⟨by kernel_rfl, Go.Proofs.Tryz.f81, Go.Proofs.Tryz.func81, by kernel_rfl⟩
theorem c82 : okFunc Go.Proofs.Tryz.prog 82 = true ∧ ∃ fn, Go.Proofs.Tryz.prog.funcs[82]? = some fn ∧ cFunc Go.Proofs.Tryz.prog fn = some k82 := ⟨by kernel_rfl, Go.Proofs.Tryz.f82, Go.Proofs.Tryz.func82, by kernel_rfl⟩
theorem c83 : okFunc Go.Proofs.Tryz.prog 83 = true ∧ ∃ fn, Go.Proofs.Tryz.prog.funcs[83]? = some fn ∧ cFunc Go.Proofs.Tryz.prog fn = some k83 := ⟨by kernel_rfl, Go.Proofs.Tryz.f83, Go.Proofs.Tryz.func83, by kernel_rfl⟩
theorem c89 : okFunc Go.Proofs.Tryz.prog 89 = true ∧ ∃ fn, Go.Proofs.Tryz.prog.funcs[89]? = some fn ∧ cFunc Go.Proofs.Tryz.prog fn = some k89 := ⟨by kernel_rfl, Go.Proofs.Tryz.f89, Go.Proofs.Tryz.func89, by kernel_rfl⟩
theorem c91 : okFunc Go.Proofs.Tryz.prog 91 = true ∧ ∃ fn, Go.Proofs.Tryz.prog.funcs[91]? = some fn ∧ cFunc Go.Proofs.Tryz.prog fn = some k91 := ⟨by kernel_rfl, Go.Proofs.Tryz.f91, Go.Proofs.Tryz.func91, by kernel_rfl⟩
theorem c101 : okFunc Go.Proofs.Tryz.prog 101 = true ∧ ∃ fn, Go.Proofs.Tryz.prog.funcs[101]? = some fn ∧ cFunc Go.Proofs.Tryz.prog fn = some k101 := ⟨by kernel_rfl, Go.Proofs.Tryz.f101, Go.Proofs.Tryz.func101, by kernel_rfl⟩
theorem c102 : okFunc Go.Proofs.Tryz.prog 102 = true ∧ ∃ fn, Go.Proofs.Tryz.prog.funcs[102]? = some fn ∧ cFunc Go.Proofs.Tryz.prog fn = some k102 := ⟨by kernel_rfl, Go.Proofs.Tryz.f102, Go.Proofs.Tryz.func102, by kernel_rfl⟩
theorem c103 : okFunc Go.Proofs.Tryz.prog 103 = true ∧ ∃ fn, Go.Proofs.Tryz.prog.funcs[103]? = some fn ∧ cFunc Go.Proofs.Tryz.prog fn = some k103 := ⟨by kernel_rfl, Go.Proofs.Tryz.f103, Go.Proofs.Tryz.func103, by kernel_rfl⟩
theorem c104 : okFunc Go.Proofs.Tryz.prog 104 = true ∧ ∃ fn, Go.Proofs.Tryz.prog.funcs[104]? = some fn ∧ cFunc Go.Proofs.Tryz.prog fn = some k104 := ⟨by kernel_rfl, Go.Proofs.Tryz.f104, Go.Proofs.Tryz.func104, by kernel_rfl⟩
theorem c105 : okFunc Go.Proofs.Tryz.prog 105 = true ∧ ∃ fn, Go.Proofs.Tryz.prog.funcs[105]? = some fn ∧ cFunc Go.Proofs.Tryz.prog fn = some k105 := ⟨by kernel_rfl, Go.Proofs.Tryz.f105, Go.Proofs.Tryz.func105, by kernel_rfl⟩
theorem c106 : okFunc Go.Proofs.Tryz.prog 106 = true ∧ ∃ fn, Go.Proofs.Tryz.prog.funcs[106]? = some fn ∧ cFunc Go.Proofs.Tryz.prog fn = some k106 := ⟨by kernel_rfl, Go.Proofs.Tryz.f106, Go.Proofs.Tryz.func106, by kernel_rfl⟩
theorem c111 : okFunc Go.Proofs.Tryz.prog 111 = true ∧ ∃ fn, Go.Proofs.Tryz.prog.funcs[111]? = some fn ∧ cFunc Go.Proofs.Tryz.prog fn = some k111 := ⟨by kernel_rfl, Go.Proofs.Tryz.f111, Go.Proofs.Tryz.func111, by kernel_rfl⟩
theorem c113 : okFunc Go.Proofs.Tryz.prog 113 = true ∧ ∃ fn, Go.Proofs.Tryz.prog.funcs[113]? = some fn ∧ cFunc Go.Proofs.Tryz.prog fn = some k113 := ⟨by kernel_rfl, Go.Proofs.Tryz.f113, Go.Proofs.Tryz.func113, by kernel_rfl⟩
theorem c114 : okFunc Go.Proofs.Tryz.prog 114 = true ∧ ∃ fn, Go.Proofs.Tryz.prog.funcs[114]? = some fn ∧ cFunc Go.Proofs.Tryz.prog fn = some k114 := ⟨by kernel_rfl, Go.Proofs.Tryz.f114, Go.Proofs.Tryz.func114, by kernel_rfl⟩
theorem c115 : okFunc Go.Proofs.Tryz.prog 115 = true ∧ ∃ fn, Go.Proofs.Tryz.prog.funcs[115]? = some fn ∧ cFunc Go.Proofs.Tryz.prog fn = some k115 := ⟨by kernel_rfl, Go.Proofs.Tryz.f115, Go.Proofs.Tryz.func115, by kernel_rfl⟩
theorem c116 : okFunc Go.Proofs.Tryz.prog 116 = true ∧ ∃ fn, Go.Proofs.Tryz.prog.funcs[116]? = some fn ∧ cFunc Go.Proofs.Tryz.prog fn = some k116 := ⟨by kernel_rfl, Go.Proofs.Tryz.f116, Go.Proofs.Tryz.func116, by kernel_rfl⟩
theorem c117 : okFunc Go.Proofs.Tryz.prog 117 = true ∧ ∃ fn, Go.Proofs.Tryz.prog.funcs[117]? = some fn ∧ cFunc Go.Proofs.Tryz.prog fn = some k117 := ⟨by kernel_rfl, Go.Proofs.Tryz.f117, Go.Proofs.Tryz.func117, by kernel_rfl⟩
theorem c118 : okFunc Go.Proofs.Tryz.prog 118 = true ∧ ∃ fn, Go.Proofs.Tryz.prog.funcs[118]? = some fn ∧ cFunc Go.Proofs.Tryz.prog fn = some k118 := ⟨by kernel_rfl, Go.Proofs.Tryz.f118, Go.Proofs.Tryz.func118, by kernel_rfl⟩
theorem c119 : okFunc Go.Proofs.Tryz.prog 119 = true ∧ ∃ fn, Go.Proofs.Tryz.prog.funcs[119]? = some fn ∧ cFunc Go.Proofs.Tryz.prog fn = some k119 := ⟨by kernel_rfl, Go.Proofs.Tryz.f119, Go.Proofs.Tryz.func119, by kernel_rfl⟩
theorem c132 : okFunc Go.Proofs.Tryz.prog 132 = true ∧ ∃ fn, Go.Proofs.Tryz.prog.funcs[132]? = some fn ∧ cFunc Go.Proofs.Tryz.prog fn = some k132 := ⟨by kernel_rfl, Go.Proofs.Tryz.f132, Go.Proofs.Tryz.func132, by kernel_rfl⟩
theorem c138 : okFunc Go.Proofs.Tryz.prog 138 = true ∧ ∃ fn, Go.Proofs.Tryz.prog.funcs[138]? = some fn ∧ cFunc Go.Proofs.Tryz.prog fn = some k138 := ⟨by kernel_rfl, Go.Proofs.Tryz.f138, Go.Proofs.Tryz.func138, by kernel_rfl⟩
theorem c140 : okFunc Go.Proofs.Tryz.prog 140 = true ∧ ∃ fn, Go.Proofs.Tryz.prog.funcs[140]? = some fn ∧ cFunc Go.Proofs.Tryz.prog fn = some k140 := ⟨by kernel_rfl, Go.Proofs.Tryz.f140, Go.Proofs.Tryz.func140, by kernel_rfl⟩
theorem c141 : okFunc Go.Proofs.Tryz.prog 141 = true ∧ ∃ fn, Go.Proofs.Tryz.prog.funcs[141]? = some fn ∧ cFunc Go.Proofs.Tryz.prog fn = some k141 := ⟨by kernel_rfl, Go.Proofs.Tryz.f141, Go.Proofs.Tryz.func141, by kernel_rfl⟩
theorem c144 : okFunc Go.Proofs.Tryz.prog 144 = true ∧ ∃ fn, Go.Proofs.Tryz.prog.funcs[144]? = some fn ∧ cFunc Go.Proofs.Tryz.prog fn = some k144 := ⟨by kernel_rfl, Go.Proofs.Tryz.f144, Go.Proofs.Tryz.func144, by kernel_rfl⟩
theorem c145 : okFunc Go.Proofs.Tryz.prog 145 = true ∧ ∃ fn, Go.Proofs.Tryz.prog.funcs[145]? = some fn ∧ cFunc Go.Proofs.Tryz.prog fn = some k145 := ⟨by kernel_rfl, Go.Proofs.Tryz.f145, Go.Proofs.Tryz.func145, by kernel_rfl⟩
theorem c149 : okFunc Go.Proofs.Tryz.prog 149 = true ∧ ∃ fn, Go.Proofs.Tryz.prog.funcs[149]? = some fn ∧ cFunc Go.Proofs.Tryz.prog fn = some k149 := ⟨by kernel_rfl, Go.Proofs.Tryz.f149, Go.Proofs.Tryz.func149, by kernel_rfl⟩
theorem c154 : okFunc Go.Proofs.Tryz.prog 154 = true ∧ ∃ fn, Go.Proofs.Tryz.prog.funcs[154]? = some fn ∧ cFunc Go.Proofs.Tryz.prog fn = some k154 := ⟨by kernel_rfl, Go.Proofs.Tryz.f154, Go.Proofs.Tryz.func154, by kernel_rfl⟩
theorem c155 : okFunc Go.Proofs.Tryz.prog 155 = true ∧ ∃ fn, Go.Proofs.Tryz.prog.funcs[155]? = some fn ∧ cFunc Go.Proofs.Tryz.prog fn = some k155 := ⟨by kernel_rfl, Go.Proofs.Tryz.f155, Go.Proofs.Tryz.func155, by kernel_rfl⟩
theorem c156 : okFunc Go.Proofs.Tryz.prog 156 = true ∧ ∃ fn, Go.Proofs.Tryz.prog.funcs[156]? = some fn ∧ cFunc Go.Proofs.Tryz.prog fn = some k156 := ⟨by kernel_rfl, Go.Proofs.Tryz.f156, Go.Proofs.Tryz.func156, by kernel_rfl⟩
theorem c157 : okFunc Go.Proofs.Tryz.prog 157 = true ∧ ∃ fn, Go.Proofs.Tryz.prog.funcs[157]? = some fn ∧ cFunc Go.Proofs.Tryz.prog fn = some k157 := ⟨by kernel_rfl, Go.Proofs.Tryz.f157, Go.Proofs.Tryz.func157, by kernel_rfl⟩
theorem c175 : okFunc Go.Proofs.Tryz.prog 175 = true ∧ ∃ fn, Go.Proofs.Tryz.prog.funcs[175]? = some fn ∧ cFunc Go.Proofs.Tryz.prog fn = some k175 := ⟨by kernel_rfl, Go.Proofs.Tryz.f175, Go.Proofs.Tryz.func175, by kernel_rfl⟩
theorem c176 : okFunc Go.Proofs.Tryz.prog 176 = true ∧ ∃ fn, Go.Proofs.Tryz.prog.funcs[176]? = some fn ∧ cFunc Go.Proofs.Tryz.prog fn = some k176 := ⟨by kernel_rfl, Go.Proofs.Tryz.f176, Go.Proofs.Tryz.func176, by kernel_rfl⟩
theorem c179 : okFunc Go.Proofs.Tryz.prog 179 = true ∧ ∃ fn, Go.Proofs.Tryz.prog.funcs[179]? = some fn ∧ cFunc Go.Proofs.Tryz.prog fn = some k179 := ⟨by kernel_rfl, Go.Proofs.Tryz.f179, Go.Proofs.Tryz.func179, by kernel_rfl⟩
theorem c189 : okFunc Go.Proofs.Tryz.prog 189 = true ∧ ∃ fn, Go.Proofs.Tryz.prog.funcs[189]? = some fn ∧ cFunc Go.Proofs.Tryz.prog fn = some k189 := ⟨by kernel_rfl, Go.Proofs.Tryz.f189, Go.Proofs.Tryz.func189, by kernel_rfl⟩
theorem c190 : okFunc Go.Proofs.Tryz.prog 190 = true ∧ ∃ fn, Go.Proofs.Tryz.prog.funcs[190]? = some fn ∧ cFunc Go.Proofs.Tryz.prog fn = some k190 := ⟨by kernel_rfl, Go.Proofs.Tryz.f190, Go.Proofs.Tryz.func190, by kernel_rfl⟩
theorem c191 : okFunc Go.Proofs.Tryz.prog 191 = true ∧ ∃ fn, Go.Proofs.Tryz.prog.funcs[191]? = some fn ∧ cFunc Go.Proofs.Tryz.prog fn = some k191 := ⟨by kernel_rfl, Go.Proofs.Tryz.f191, Go.Proofs.Tryz.func191, by kernel_rfl⟩
theorem c192 : okFunc Go.Proofs.Tryz.prog 192 = true ∧ ∃ fn, Go.Proofs.Tryz.prog.funcs[192]? = some fn ∧ cFunc Go.Proofs.Tryz.prog fn = some k192 := ⟨by kernel_rfl, Go.Proofs.Tryz.f192, Go.Proofs.Tryz.func192, by kernel_rfl⟩
theorem c194 : okFunc Go.Proofs.Tryz.prog 194 = true ∧ ∃ fn, Go.Proofs.Tryz.prog.funcs[194]? = some fn ∧ cFunc Go.Proofs.Tryz.prog fn = some k194 := ⟨by kernel_rfl, Go.Proofs.Tryz.f194, Go.Proofs.Tryz.func194, by kernel_rfl⟩
theorem c195 : okFunc Go.Proofs.Tryz.prog 195 = true ∧ ∃ fn, Go.Proofs.Tryz.prog.funcs[195]? = some fn ∧ cFunc Go.Proofs.Tryz.prog fn = some k195 := ⟨by kernel_rfl, Go.Proofs.Tryz.f195, Go.Proofs.Tryz.func195, by kernel_rfl⟩
theorem c196 : okFunc Go.Proofs.Tryz.prog 196 = true ∧ ∃ fn, Go.Proofs.Tryz.prog.funcs[196]? = some fn ∧ cFunc Go.Proofs.Tryz.prog fn = some k196 := ⟨by kernel_rfl, Go.Proofs.Tryz.f196, Go.Proofs.Tryz.func196, by kernel_rfl⟩
theorem c197 : okFunc Go.Proofs.Tryz.prog 197 = true ∧ ∃ fn, Go.Proofs.Tryz.prog.funcs[197]? = some fn ∧ cFunc Go.Proofs.Tryz.prog fn = some k197 := ⟨by kernel_rfl, Go.Proofs.Tryz.f197, Go.Proofs.Tryz.func197, by kernel_rfl⟩
theorem c209 : okFunc Go.Proofs.Tryz.prog 209 = true ∧ ∃ fn, Go.Proofs.Tryz.prog.funcs[209]? = some fn ∧ cFunc Go.Proofs.Tryz.prog fn = some k209 := ⟨by kernel_rfl, Go.Proofs.Tryz.f209, Go.Proofs.Tryz.func209, by kernel_rfl⟩
theorem c217 : okFunc Go.Proofs.Tryz.prog 217 = true ∧ ∃ fn, Go.Proofs.Tryz.prog.funcs[217]? = some fn ∧ cFunc Go.Proofs.Tryz.prog fn = some k217 := ⟨by kernel_rfl, Go.Proofs.Tryz.f217, Go.Proofs.Tryz.func217, by kernel_rfl⟩
theorem c229 : okFunc Go.Proofs.Tryz.prog 229 = true ∧ ∃ fn, Go.Proofs.Tryz.prog.funcs[229]? = some fn ∧ cFunc Go.Proofs.Tryz.prog fn = some k229 := ⟨by kernel_rfl, Go.Proofs.Tryz.f229, Go.Proofs.Tryz.func229, by kernel_rfl⟩
theorem c230 : okFunc Go.Proofs.Tryz.prog 230 = true ∧ ∃ fn, Go.Proofs.Tryz.prog.funcs[230]? = some fn ∧ cFunc Go.Proofs.Tryz.prog fn = some k230 := ⟨by kernel_rfl, Go.Proofs.Tryz.f230, Go.Proofs.Tryz.func230, by kernel_rfl⟩
theorem c233 : okFunc Go.Proofs.Tryz.prog 233 = true ∧ ∃ fn, Go.Proofs.Tryz.prog.funcs[233]? = some fn ∧ cFunc Go.Proofs.Tryz.prog fn = some k233 := ⟨by kernel_rfl, Go.Proofs.Tryz.f233, Go.Proofs.Tryz.func233, by kernel_rfl⟩
theorem c234 : okFunc Go.Proofs.Tryz.prog 234 = true ∧ ∃ fn, Go.Proofs.Tryz.prog.funcs[234]? = some fn ∧ cFunc Go.Proofs.Tryz.prog fn = some k234 := ⟨by kernel_rfl, Go.Proofs.Tryz.f234, Go.Proofs.Tryz.func234, by kernel_rfl⟩
theorem c249 : okFunc Go.Proofs.Tryz.prog 249 = true ∧ ∃ fn, Go.Proofs.Tryz.prog.funcs[249]? = some fn ∧ cFunc Go.Proofs.Tryz.prog fn = some k249 := ⟨by kernel_rfl, Go.Proofs.Tryz.f249, Go.Proofs.Tryz.func249, by kernel_rfl⟩
theorem c283 : okFunc Go.Proofs.Tryz.prog 283 = true ∧ ∃ fn, Go.Proofs.Tryz.prog.funcs[283]? = some fn ∧ cFunc Go.Proofs.Tryz.prog fn = some k283 := ⟨by kernel_rfl, Go.Proofs.Tryz.f283, Go.Proofs.Tryz.func283, by kernel_rfl⟩
theorem c285 : okFunc Go.Proofs.Tryz.prog 285 = true ∧ ∃ fn, Go.Proofs.Tryz.prog.funcs[285]? = some fn ∧ cFunc Go.Proofs.Tryz.prog fn = some k285 := ⟨by kernel_rfl, Go.Proofs.Tryz.f285, Go.Proofs.Tryz.func285, by kernel_rfl⟩
theorem c286 : okFunc Go.Proofs.Tryz.prog 286 = true ∧ ∃ fn, Go.Proofs.Tryz.prog.funcs[286]? = some fn ∧ cFunc Go.Proofs.Tryz.prog fn = some k286 := ⟨by kernel_rfl, Go.Proofs.Tryz.f286, Go.Proofs.Tryz.func286, by kernel_rfl⟩
theorem c287 : okFunc Go.Proofs.Tryz.prog 287 = true ∧ ∃ fn, Go.Proofs.Tryz.prog.funcs[287]? = some fn ∧ cFunc Go.Proofs.Tryz.prog fn = some k287 := ⟨by kernel_rfl, Go.Proofs.Tryz.f287, Go.Proofs.Tryz.func287, by kernel_rfl⟩
theorem c288 : okFunc Go.Proofs.Tryz.prog 288 = true ∧ ∃ fn, Go.Proofs.Tryz.prog.funcs[288]? = some fn ∧ cFunc Go.Proofs.Tryz.prog fn = some k288 := ⟨by kernel_rfl, Go.Proofs.Tryz.f288, Go.Proofs.Tryz.func288, by kernel_rfl⟩
def fnc0 : FuncId → Option KFunc
  | 8 => some k8
  | 15 => some k15
  | 16 => some k16
  | 20 => some k20
  | 22 => some k22
  | 23 => some k23
  | 26 => some k26
  | 27 => some k27
  | 28 => some k28
  | 29 => some k29
  | 30 => some k30
  | 31 => some k31
  | 47 => some k47
  | 48 => some k48
  | 49 => some k49
  | 50 => some k50
  | 51 => some k51
  | 52 => some k52
  | 53 => some k53
  | 54 => some k54
  | 60 => some k60
  | 61 => some k61
  | 62 => some k62
  | 63 => some k63
  | 64 => some k64
  | 65 => some k65
  | 73 => some k73
  | 74 => some k74
  | 75 => some k75
  | 76 => some k76
  | 78 => some k78
  | 79 => some k79
  | _ => none
def fnc1 : FuncId → Option KFunc
  | 80 => some k80
  | 81 => some k81
  | 82 => some k82
  | 83 => some k83
  | 89 => some k89
  | 91 => some k91
  | 101 => some k101
  | 102 => some k102
  | 103 => some k103
  | 104 => some k104
  | 105 => some k105
  | 106 => some k106
  | 111 => some k111
  | 113 => some k113
  | 114 => some k114
  | 115 => some k115
  | 116 => some k116
  | 117 => some k117
  | 118 => some k118
  | 119 => some k119
  | 132 => some k132
  | 138 => some k138
  | 140 => some k140
  | 141 => some k141
  | 144 => some k144
  | 145 => some k145
  | 149 => some k149
  | 154 => some k154
  | 155 => some k155
  | 156 => some k156
  | 157 => some k157
  | 175 => some k175
  | _ => none
def fnc2 : FuncId → Option KFunc
  | 176 => some k176
  | 179 => some k179
  | 189 => some k189
  | 190 => some k190
  | 191 => some k191
  | 192 => some k192
  | 194 => some k194
  | 195 => some k195
  | 196 => some k196
  | 197 => some k197
  | 209 => some k209
  | 217 => some k217
  | 229 => some k229
  | 230 => some k230
  | 233 => some k233
  | 234 => some k234
  | 249 => some k249
  | 283 => some k283
  | 285 => some k285
  | 286 => some k286
  | 287 => some k287
  | 288 => some k288
  | _ => none
def F (f : FuncId) : Option KFunc :=
  if f < 80 then fnc0 f else
  if f < 176 then fnc1 f else
  fnc2 f
def M : TypeId → String → Option (FuncId × Recv)
  | 285, "Len" => some (229, .ld)
  | 285, "Less" => some (285, .ld)
  | 285, "Swap" => some (288, .ld)
  | 285, "Pop" => some (286, .as)
  | 285, "Push" => some (287, .as)
  | 133, "Len" => some (139, .ld)
  | 133, "Less" => some (279, .ld)
  | 133, "Swap" => some (282, .ld)
  | 133, "Pop" => some (280, .as)
  | 133, "Push" => some (281, .as)
  | _, _ => none
theorem fnc0_ok : ∀ f k, fnc0 f = some k → okFunc Go.Proofs.Tryz.prog f = true ∧ ∃ fn, Go.Proofs.Tryz.prog.funcs[f]? = some fn ∧ cFunc Go.Proofs.Tryz.prog fn = some k := by
  intro f k h
  unfold fnc0 at h
  split at h
  · cases h; exact c8
  · cases h; exact c15
  · cases h; exact c16
  · cases h; exact c20
  · cases h; exact c22
  · cases h; exact c23
  · cases h; exact c26
  · cases h; exact c27
  · cases h; exact c28
  · cases h; exact c29
  · cases h; exact c30
  · cases h; exact c31
  · cases h; exact c47
  · cases h; exact c48
  · cases h; exact c49
  · cases h; exact c50
  · cases h; exact c51
  · cases h; exact c52
  · cases h; exact c53
  · cases h; exact c54
  · cases h; exact c60
  · cases h; exact c61
  · cases h; exact c62
  · cases h; exact c63
  · cases h; exact c64
  · cases h; exact c65
  · cases h; exact c73
  · cases h; exact c74
  · cases h; exact c75
  · cases h; exact c76
  · cases h; exact c78
  · cases h; exact c79
  · cases h
theorem fnc1_ok : ∀ f k, fnc1 f = some k → okFunc Go.Proofs.Tryz.prog f = true ∧ ∃ fn, Go.Proofs.Tryz.prog.funcs[f]? = some fn ∧ cFunc Go.Proofs.Tryz.prog fn = some k := by
  intro f k h
  unfold fnc1 at h
  split at h
  · cases h; exact c80
  · cases h; exact c81
  · cases h; exact c82
  · cases h; exact c83
  · cases h; exact c89
  · cases h; exact c91
  · cases h; exact c101
  · cases h; exact c102
  · cases h; exact c103
  · cases h; exact c104
  · cases h; exact c105
  · cases h; exact c106
  · cases h; exact c111
  · cases h; exact c113
  · cases h; exact c114
  · cases h; exact c115
  · cases h; exact c116
  · cases h; exact c117
  · cases h; exact c118
  · cases h; exact c119
  · cases h; exact c132
  · cases h; exact c138
  · cases h; exact c140
  · cases h; exact c141
  · cases h; exact c144
  · cases h; exact c145
  · cases h; exact c149
  · cases h; exact c154
  · cases h; exact c155
  · cases h; exact c156
  · cases h; exact c157
  · cases h; exact c175
  · cases h
theorem fnc2_ok : ∀ f k, fnc2 f = some k → okFunc Go.Proofs.Tryz.prog f = true ∧ ∃ fn, Go.Proofs.Tryz.prog.funcs[f]? = some fn ∧ cFunc Go.Proofs.Tryz.prog fn = some k := by
  intro f k h
  unfold fnc2 at h
  split at h
  · cases h; exact c176
  · cases h; exact c179
  · cases h; exact c189
  · cases h; exact c190
  · cases h; exact c191
  · cases h; exact c192
  · cases h; exact c194
  · cases h; exact c195
  · cases h; exact c196
  · cases h; exact c197
  · cases h; exact c209
  · cases h; exact c217
  · cases h; exact c229
  · cases h; exact c230
  · cases h; exact c233
  · cases h; exact c234
  · cases h; exact c249
  · cases h; exact c283
  · cases h; exact c285
  · cases h; exact c286
  · cases h; exact c287
  · cases h; exact c288
  · cases h
theorem F_ok : ∀ f k, F f = some k → okFunc Go.Proofs.Tryz.prog f = true ∧ ∃ fn, Go.Proofs.Tryz.prog.funcs[f]? = some fn ∧ cFunc Go.Proofs.Tryz.prog fn = some k := by
  intro f k h
  unfold F at h
  by_cases h0 : f < 80
  · rw [if_pos h0] at h; exact fnc0_ok f k h
  rw [if_neg h0] at h
  by_cases h1 : f < 176
  · rw [if_pos h1] at h; exact fnc1_ok f k h
  rw [if_neg h1] at h
  exact fnc2_ok f k h
theorem M_ok : ∀ t n f r, M t n = some (f, r) → methOk Go.Proofs.Tryz.prog t n f r = true := by
  intro t n f r h
  unfold M at h
  split at h
  · cases h; kernel_rfl
  · cases h; kernel_rfl
  · cases h; kernel_rfl
  · cases h; kernel_rfl
  · cases h; kernel_rfl
  · cases h; kernel_rfl
  · cases h; kernel_rfl
  · cases h; kernel_rfl
  · cases h; kernel_rfl
  · cases h; kernel_rfl
  · cases h
end Go.Proofs.YtjgpbhodbgjggaaGreat.K
