/- The functions in K's language, each held against the given translation by the kernel. Printed by a program of this work (seat.py). -/
import Derived.Test.YtlboioplemlneaaKSh
import Derived.Test.YtlboioplemlneaaProg
set_option maxRecDepth 100000
set_option linter.unusedVariables false
namespace Go.Proofs.Ytlboioplemlneaa.K
open Go Go.Proofs
def k3 : KFunc := ⟨80, (.seq (.reg [(.op (some 2) none (.mv (.c (.bool false))))]) (.seq (.seq (.reg [(.op (some 12) none (.call 13 [])), (.op (some 13) none (.un .not (.t 12)))])
  (.cond (.t 13) (.seq (.reg [(.op (some 2) none (.mv (.c (.bool false))))]) .ret) .skip)) (.seq (.seq (.reg [(.op (some 14) none (.mv (.t 0))), (.op (some 15) none (.lenL
  (.t 14))), (.op (some 16) none (.bin .gtr (.t 15) (.c (.int .i64 60))))]) (.cond (.t 16) (.seq (.reg [(.op (some 2) none (.mv (.c (.bool true))))]) .ret) .skip)) (.seq
  (.reg [(.op (some 3) none (.mv (.c (.string (bs []))))), (.op (some 4) none (.mv (.c (.bool true))))]) (.seq (.seq (.reg [(.op (some 17) none (.mv (.t 0))), (.op (some 18) none
  (.lenL (.t 17))), (.op (some 19) none (.mv (.c (.int .i64 0))))]) (.block 0 (.loop (.seq (.reg [(.op (some 20) none (.bin .lss (.t 19) (.t 18)))]) (.seq (.cond (.t 20) .skip
  (.exit 0)) (.seq (.block 1 (.seq (.reg [(.op (some 21) none (.iad 5 (.t 17) (.t 19))), (.op (some 22) none (.ldn 5 (.t 21))), (.op (some 6) none (.alloc 25 [(.int .i64 0),
  (.int .i64 0), (.int .i64 0), (.bool false), (.string (bs []))])), (.op none none (.stn 5 (.t 6) (.t 22)))]) (.seq (.seq (.reg [(.op (some 23) none (.fad 4 (.t 6))),
  (.op (some 24) none (.ld (.t 23))), (.op (some 25) none (.lenS (.t 24))), (.op (some 26) none (.bin .gtr (.t 25) (.c (.int .i64 700))))]) (.cond (.t 26) (.seq
  (.reg [(.op (some 2) none (.mv (.c (.bool true))))]) .ret) .skip)) (.seq (.seq (.reg [(.op (some 27) none (.ldn 5 (.t 6))), (.op (some 29) none (.ldn 5 (.t 6))),
  (.op (some 28) none (.call 14 [(.t 27)])), (.chk 29 none (.ldn 5 (.t 6))), (.op (some 30) none (.call 15 [(.t 29)])), (.op (some 31) none (.eqv (.s .bool) true (.t 28)
  (.t 30)))]) (.cond (.t 31) (.seq (.reg [(.op (some 2) none (.mv (.c (.bool false))))]) .ret) .skip)) (.seq (.seq (.reg [(.op (some 32) none (.ldn 5 (.t 6))), (.op (some 33) none
  (.call 15 [(.t 32)])), (.op (some 34) none (.un .not (.t 33)))]) (.cond (.t 34) (.reg [(.op (some 4) none (.mv (.c (.bool false))))]) .skip)) (.seq (.reg [(.op (some 35) none
  (.mv (.t 4)))]) (.cond (.t 35) (.reg [(.op (some 36) none (.mv (.t 3))), (.op (some 37) none (.ldn 5 (.t 6))), (.op (some 38) none (.call 16 [(.t 37)])), (.op (some 39) none
  (.bin .add (.t 36) (.t 38))), (.op (some 3) none (.mv (.t 39)))]) .skip))))))) (.reg [(.op (some 40) none (.bin .add (.t 19) (.c (.int .i64 1)))), (.op (some 19) none (.mv
  (.t 40)))]))))))) (.seq (.reg [(.op (some 42) none (.mv (.t 0))), (.op (some 43) none (.call 17 [(.t 42)])), (.op (some 41) none (.mv (.t 43))), (.op (some 44) none (.xt
  (.t 41) 0)), (.op (some 45) none (.xt (.t 41) 1)), (.op (some 7) none (.mv (.t 44))), (.op (some 8) none (.mv (.t 45)))]) (.seq (.seq (.reg [(.op (some 46) none (.mv (.t 4))),
  (.op (some 47) none (.un .not (.t 46)))]) (.cond (.t 47) (.seq (.reg [(.op (some 48) none (.mv (.t 7))), (.op (some 49) none (.bin .eql (.t 48) (.c (.string (bs []))))),
  (.op (some 50) none (.mv (.t 49))), (.op (some 51) (some (50, true)) (.mv (.t 8))), (.op (some 52) (some (50, true)) (.bin .eql (.t 51) (.c (.int .i64 3)))), (.op (some 53) none
  (.pick (.t 50) (.t 52) (.c (.bool false)))), (.op (some 2) none (.mv (.t 53)))]) .ret) .skip)) (.seq (.reg [(.op (some 55) none (.mv (.t 7))), (.op (some 56) none
  (.call 18 [(.t 55)])), (.op (some 54) none (.mv (.t 56))), (.op (some 57) none (.xt (.t 54) 0)), (.op (some 58) none (.xt (.t 54) 1)), (.op (some 59) none (.xt (.t 54) 2)),
  (.op (some 9) none (.mv (.t 57))), (.op (some 10) none (.mv (.t 58))), (.op (some 11) none (.mv (.t 59)))]) (.seq (.reg [(.op (some 60) none (.mv (.t 8))), (.op (some 61) none
  (.bin .eql (.t 60) (.c (.int .i64 0)))), (.op (some 62) none (.mv (.t 61))), (.op (some 63) (some (62, true)) (.mv (.t 7))), (.op (some 64) (some (62, true)) (.mv (.t 3))),
  (.op (some 65) (some (62, true)) (.bin .eql (.t 63) (.t 64))), (.op (some 66) none (.pick (.t 62) (.t 65) (.c (.bool false)))), (.op (some 67) none (.mv (.t 66))),
  (.op (some 68) (some (67, true)) (.mv (.t 10))), (.op (some 69) (some (67, true)) (.bin .eql (.t 68) (.c (.int .i64 0)))), (.op (some 70) none (.pick (.t 67) (.t 69) (.c
  (.bool false)))), (.op (some 71) none (.mv (.t 70))), (.op (some 72) (some (71, true)) (.mv (.t 11))), (.op (some 73) (some (71, true)) (.bin .eql (.t 72) (.c (.int .i64 0)))),
  (.op (some 74) none (.pick (.t 71) (.t 73) (.c (.bool false)))), (.op (some 75) none (.mv (.t 74))), (.op (some 76) (some (75, true)) (.mv (.t 9))), (.op (some 77) (some (75,
  true)) (.mv (.t 0))), (.op (some 78) (some (75, true)) (.call 19 [(.t 76), (.t 77)])), (.op (some 79) none (.pick (.t 75) (.t 78) (.c (.bool false)))), (.op (some 2) none (.mv
  (.t 79)))]) .ret))))))))), [(.t 2)]⟩
def k4 : KFunc := ⟨80, (.seq (.reg [(.op (some 2) none (.mv (.c (.bool false))))]) (.seq (.seq (.reg [(.op (some 12) none (.call 13 [])), (.op (some 13) none (.un .not (.t 12)))])
  (.cond (.t 13) (.seq (.reg [(.op (some 2) none (.mv (.c (.bool false))))]) .ret) .skip)) (.seq (.seq (.reg [(.op (some 14) none (.mv (.t 0))), (.op (some 15) none (.lenS
  (.t 14))), (.op (some 16) none (.bin .gtr (.t 15) (.c (.int .i64 300))))]) (.cond (.t 16) (.seq (.reg [(.op (some 2) none (.mv (.c (.bool true))))]) .ret) .skip)) (.seq
  (.reg [(.op (some 18) none (.mv (.t 0))), (.op (some 19) none (.call 18 [(.t 18)])), (.op (some 17) none (.mv (.t 19))), (.op (some 20) none (.xt (.t 17) 0)),
  (.op (some 21) none (.xt (.t 17) 1)), (.op (some 22) none (.xt (.t 17) 2)), (.op (some 3) none (.mv (.t 20))), (.op (some 4) none (.mv (.t 21))), (.op (some 5) none (.mv
  (.t 22)))]) (.seq (.reg [(.op (some 6) none (.mv (.c (.slice none 0 0))))]) (.seq (.reg [(.op (some 7) none (.mv (.c (.int .i64 0))))]) (.seq (.block 0 (.loop (.seq (.seq
  (.reg [(.op (some 23) none (.mv (.t 7))), (.op (some 24) none (.mv (.t 0))), (.op (some 25) none (.lenS (.t 24))), (.op (some 26) none (.bin .lss (.t 23) (.t 25)))]) (.cond
  (.t 26) .skip (.exit 0))) (.block 1 (.seq (.reg [(.op (some 28) none (.mv (.t 0))), (.op (some 29) none (.mv (.t 7))), (.op (some 30) none (.slS (.t 28) (some (.t 29)) none)),
  (.op (some 31) none (.call 20 [(.t 30)])), (.op (some 27) none (.mv (.t 31))), (.op (some 32) none (.xt (.t 27) 0)), (.op (some 33) none (.xt (.t 27) 1)), (.op (some 8) none
  (.alloc 25 [(.int .i64 0), (.int .i64 0), (.int .i64 0), (.bool false), (.string (bs []))])), (.op none none (.stn 5 (.t 8) (.t 32))), (.op (some 9) none (.mv (.t 33)))]) (.seq
  (.seq (.reg [(.op (some 34) none (.mv (.t 9))), (.op (some 35) none (.bin .eql (.t 34) (.c (.int .i64 0))))]) (.cond (.t 35) (.seq (.reg [(.op (some 36) none (.mv (.t 4))),
  (.op (some 37) none (.bin .eql (.t 36) (.c (.int .i64 3)))), (.op (some 38) none (.mv (.t 37))), (.op (some 39) (some (38, true)) (.mv (.t 5))), (.op (some 40) (some (38, true))
  (.mv (.t 7))), (.op (some 41) (some (38, true)) (.bin .eql (.t 39) (.t 40))), (.op (some 42) none (.pick (.t 38) (.t 41) (.c (.bool false)))), (.op (some 43) none (.mv
  (.t 42))), (.op (some 44) (some (43, true)) (.mv (.t 3))), (.op (some 45) (some (43, true)) (.lenL (.t 44))), (.op (some 46) (some (43, true)) (.bin .eql (.t 45) (.c
  (.int .i64 0)))), (.op (some 47) none (.pick (.t 43) (.t 46) (.c (.bool false)))), (.op (some 2) none (.mv (.t 47)))]) .ret) .skip)) (.reg [(.op (some 48) none (.mv (.t 6))),
  (.op (some 49) none (.ldn 5 (.t 8))), (.op (some 50) none (.bsl 25 1 [(.int .i64 0), (.int .i64 0), (.int .i64 0), (.bool false), (.string (bs []))] [(0, (5, (.t 49)))])),
  (.op (some 51) none (.app 25 5 48 (.t 48) (.t 50))), (.op (some 52) none (.mv (.t 7))), (.op (some 53) none (.mv (.t 9))), (.op (some 54) none (.bin .add (.t 52) (.t 53))),
  (.op (some 6) none (.mv (.t 51))), (.op (some 7) none (.mv (.t 54)))]))))))) (.seq (.reg [(.op (some 56) none (.mv (.t 3))), (.op (some 57) none (.call 17 [(.t 56)])),
  (.op (some 55) none (.mv (.t 57))), (.op (some 58) none (.xt (.t 55) 0)), (.op (some 59) none (.xt (.t 55) 1)), (.op (some 10) none (.mv (.t 58))), (.op (some 11) none (.mv
  (.t 59)))]) (.seq (.reg [(.op (some 60) none (.mv (.t 4))), (.op (some 61) none (.bin .eql (.t 60) (.c (.int .i64 0)))), (.op (some 62) none (.mv (.t 61))),
  (.op (some 63) (some (62, true)) (.mv (.t 5))), (.op (some 64) (some (62, true)) (.bin .eql (.t 63) (.c (.int .i64 0)))), (.op (some 65) none (.pick (.t 62) (.t 64) (.c
  (.bool false)))), (.op (some 66) none (.mv (.t 65))), (.op (some 67) (some (66, true)) (.mv (.t 3))), (.op (some 68) (some (66, true)) (.mv (.t 6))), (.op (some 69) (some (66,
  true)) (.call 19 [(.t 67), (.t 68)])), (.op (some 70) none (.pick (.t 66) (.t 69) (.c (.bool false)))), (.op (some 71) none (.mv (.t 70))), (.op (some 72) (some (71, true)) (.mv
  (.t 11))), (.op (some 73) (some (71, true)) (.bin .eql (.t 72) (.c (.int .i64 0)))), (.op (some 74) none (.pick (.t 71) (.t 73) (.c (.bool false)))), (.op (some 75) none (.mv
  (.t 74))), (.op (some 76) (some (75, true)) (.mv (.t 10))), (.op (some 77) (some (75, true)) (.mv (.t 0))), (.op (some 78) (some (75, true)) (.bin .eql (.t 76) (.t 77))),
  (.op (some 79) none (.pick (.t 75) (.t 78) (.c (.bool false)))), (.op (some 2) none (.mv (.t 79)))]) .ret))))))))), [(.t 2)]⟩
def k13 : KFunc := ⟨40, (.seq (.reg [(.op (some 0) none (.mv (.c (.bool false))))]) (.seq (.reg [(.op (some 7) none (.build [(.int .i64 0), (.int .i64 0), (.int .i64 0),
  (.bool false), (.string (bs []))] [(0, (1, (.c (.int .i64 3)))), (1, (1, (.c (.int .i64 2))))])), (.op (some 8) none (.bsl 25 1 [(.int .i64 0), (.int .i64 0), (.int .i64 0),
  (.bool false), (.string (bs []))] [(0, (5, (.t 7)))])), (.op (some 9) none (.call 17 [(.t 8)])), (.op (some 6) none (.mv (.t 9))), (.op (some 10) none (.xt (.t 6) 0)),
  (.op (some 11) none (.xt (.t 6) 1)), (.op (some 1) none (.mv (.t 10))), (.op (some 2) none (.mv (.t 11)))]) (.seq (.reg [(.op (some 13) none (.mv (.t 1))), (.op (some 14) none
  (.call 18 [(.t 13)])), (.op (some 12) none (.mv (.t 14))), (.op (some 15) none (.xt (.t 12) 0)), (.op (some 16) none (.xt (.t 12) 1)), (.op (some 17) none (.xt (.t 12) 2)),
  (.op (some 3) none (.mv (.t 15))), (.op (some 4) none (.mv (.t 16))), (.op (some 5) none (.mv (.t 17)))]) (.seq (.reg [(.op (some 18) none (.mv (.t 2))), (.op (some 19) none
  (.bin .eql (.t 18) (.c (.int .i64 0)))), (.op (some 20) none (.mv (.t 19))), (.op (some 21) (some (20, true)) (.mv (.t 1))), (.op (some 22) (some (20, true)) (.bin .eql (.t 21)
  (.c (.string (bs [3, 2, 0, 0]))))), (.op (some 23) none (.pick (.t 20) (.t 22) (.c (.bool false)))), (.op (some 24) none (.mv (.t 23))), (.op (some 25) (some (24, true)) (.mv
  (.t 4))), (.op (some 26) (some (24, true)) (.bin .eql (.t 25) (.c (.int .i64 0)))), (.op (some 27) none (.pick (.t 24) (.t 26) (.c (.bool false)))), (.op (some 28) none (.mv
  (.t 27))), (.op (some 29) (some (28, true)) (.mv (.t 3))), (.op (some 30) (some (28, true)) (.lenL (.t 29))), (.op (some 31) (some (28, true)) (.bin .eql (.t 30) (.c
  (.int .i64 1)))), (.op (some 32) none (.pick (.t 28) (.t 31) (.c (.bool false)))), (.op (some 33) none (.mv (.t 32))), (.op (some 34) (some (33, true)) (.mv (.t 3))),
  (.op (some 35) (some (33, true)) (.iad 5 (.t 34) (.c (.int .i64 0)))), (.op (some 36) (some (33, true)) (.ldn 5 (.t 35))), (.op (some 37) (some (33, true))
  (.build [(.int .i64 0), (.int .i64 0), (.int .i64 0), (.bool false), (.string (bs []))] [(0, (1, (.c (.int .i64 3)))), (1, (1, (.c (.int .i64 2))))])), (.op (some 38) (some (33,
  true)) (.eqv (.agg [.int, .int, .int, .bool, .str]) false (.t 36) (.t 37))), (.op (some 39) none (.pick (.t 33) (.t 38) (.c (.bool false)))), (.op (some 0) none (.mv
  (.t 39)))]) .ret)))), [(.t 0)]⟩
def k14 : KFunc := ⟨37, (.seq (.reg [(.op (some 1) none (.box 25 (.t 0))), (.op (some 2) none (.mv (.c (.bool false))))]) (.seq (.reg [(.op (some 3) none (.fad 0 (.t 1))),
  (.op (some 4) none (.ld (.t 3))), (.op (some 5) none (.bin .geq (.t 4) (.c (.int .i64 0)))), (.op (some 6) none (.mv (.t 5))), (.op (some 7) (some (6, true)) (.fad 0 (.t 1))),
  (.op (some 8) (some (6, true)) (.ld (.t 7))), (.op (some 9) (some (6, true)) (.bin .leq (.t 8) (.c (.int .i64 9)))), (.op (some 10) none (.pick (.t 6) (.t 9) (.c
  (.bool false)))), (.op (some 11) none (.mv (.t 10))), (.op (some 12) (some (11, true)) (.fad 1 (.t 1))), (.op (some 13) (some (11, true)) (.ld (.t 12))),
  (.op (some 14) (some (11, true)) (.bin .geq (.t 13) (.c (.int .i64 0)))), (.op (some 15) none (.pick (.t 11) (.t 14) (.c (.bool false)))), (.op (some 16) none (.mv (.t 15))),
  (.op (some 17) (some (16, true)) (.fad 1 (.t 1))), (.op (some 18) (some (16, true)) (.ld (.t 17))), (.op (some 19) (some (16, true)) (.bin .leq (.t 18) (.c (.int .i64 255)))),
  (.op (some 20) none (.pick (.t 16) (.t 19) (.c (.bool false)))), (.op (some 21) none (.mv (.t 20))), (.op (some 22) (some (21, true)) (.fad 2 (.t 1))), (.op (some 23) (some (21,
  true)) (.ld (.t 22))), (.op (some 24) (some (21, true)) (.bin .geq (.t 23) (.c (.int .i64 0)))), (.op (some 25) none (.pick (.t 21) (.t 24) (.c (.bool false)))),
  (.op (some 26) none (.mv (.t 25))), (.op (some 27) (some (26, true)) (.fad 2 (.t 1))), (.op (some 28) (some (26, true)) (.ld (.t 27))), (.op (some 29) (some (26, true))
  (.bin .leq (.t 28) (.c (.int .i64 1073741824)))), (.op (some 30) none (.pick (.t 26) (.t 29) (.c (.bool false)))), (.op (some 31) none (.mv (.t 30))), (.op (some 32) (some (31,
  true)) (.fad 4 (.t 1))), (.op (some 33) (some (31, true)) (.ld (.t 32))), (.op (some 34) (some (31, true)) (.lenS (.t 33))), (.op (some 35) (some (31, true)) (.bin .leq (.t 34)
  (.c (.int .i64 600)))), (.op (some 36) none (.pick (.t 31) (.t 35) (.c (.bool false)))), (.op (some 2) none (.mv (.t 36)))]) .ret)), [(.t 2)]⟩
def k15 : KFunc := ⟨37, (.seq (.reg [(.op (some 1) none (.box 25 (.t 0))), (.op (some 2) none (.mv (.c (.bool false))))]) (.seq (.reg [(.op (some 3) none (.fad 0 (.t 1))),
  (.op (some 4) none (.ld (.t 3))), (.op (some 5) none (.bin .geq (.t 4) (.c (.int .i64 0)))), (.op (some 6) none (.mv (.t 5))), (.op (some 7) (some (6, true)) (.fad 0 (.t 1))),
  (.op (some 8) (some (6, true)) (.ld (.t 7))), (.op (some 9) (some (6, true)) (.bin .leq (.t 8) (.c (.int .i64 9)))), (.op (some 10) none (.pick (.t 6) (.t 9) (.c
  (.bool false)))), (.op (some 11) none (.mv (.t 10))), (.op (some 12) (some (11, true)) (.fad 1 (.t 1))), (.op (some 13) (some (11, true)) (.ld (.t 12))),
  (.op (some 14) (some (11, true)) (.bin .geq (.t 13) (.c (.int .i64 0)))), (.op (some 15) none (.pick (.t 11) (.t 14) (.c (.bool false)))), (.op (some 16) none (.mv (.t 15))),
  (.op (some 17) (some (16, true)) (.fad 1 (.t 1))), (.op (some 18) (some (16, true)) (.ld (.t 17))), (.op (some 19) (some (16, true)) (.bin .leq (.t 18) (.c (.int .i64 255)))),
  (.op (some 20) none (.pick (.t 16) (.t 19) (.c (.bool false)))), (.op (some 21) none (.mv (.t 20))), (.op (some 22) (some (21, true)) (.fad 2 (.t 1))), (.op (some 23) (some (21,
  true)) (.ld (.t 22))), (.op (some 24) (some (21, true)) (.bin .geq (.t 23) (.c (.int .i64 0)))), (.op (some 25) none (.pick (.t 21) (.t 24) (.c (.bool false)))),
  (.op (some 26) none (.mv (.t 25))), (.op (some 27) (some (26, true)) (.fad 2 (.t 1))), (.op (some 28) (some (26, true)) (.ld (.t 27))), (.op (some 29) (some (26, true))
  (.bin .leq (.t 28) (.c (.int .i64 1073741824)))), (.op (some 30) none (.pick (.t 26) (.t 29) (.c (.bool false)))), (.op (some 31) none (.mv (.t 30))), (.op (some 32) (some (31,
  true)) (.fad 4 (.t 1))), (.op (some 33) (some (31, true)) (.ld (.t 32))), (.op (some 34) (some (31, true)) (.lenS (.t 33))), (.op (some 35) (some (31, true)) (.bin .leq (.t 34)
  (.c (.int .i64 600)))), (.op (some 36) none (.pick (.t 31) (.t 35) (.c (.bool false)))), (.op (some 2) none (.mv (.t 36)))]) .ret)), [(.t 2)]⟩
def k16 : KFunc := ⟨26, (.seq (.reg [(.op (some 1) none (.box 25 (.t 0))), (.op (some 2) none (.mv (.c (.string (bs [])))))]) (.seq (.reg [(.op (some 4) none (.fad 0 (.t 1))),
  (.op (some 5) none (.ld (.t 4))), (.op (some 3) none (.mv (.t 5)))]) (.seq (.seq (.reg [(.op (some 6) none (.fad 3 (.t 1))), (.op (some 7) none (.ld (.t 6)))]) (.cond (.t 7)
  (.reg [(.op (some 8) none (.mv (.t 3))), (.op (some 9) none (.bin .add (.t 8) (.c (.int .i64 16)))), (.op (some 3) none (.mv (.t 9)))]) .skip)) (.seq (.reg [(.op (some 10) none
  (.mv (.t 3))), (.op (some 11) none (.cvt .u8 (.t 10))), (.op (some 12) none (.fad 1 (.t 1))), (.op (some 13) none (.ld (.t 12))), (.op (some 14) none (.cvt .u8 (.t 13))),
  (.op (some 17) none (.fad 2 (.t 1))), (.op (some 18) none (.ld (.t 17))), (.op (some 19) none (.cvt .u64 (.t 18))), (.op (some 20) none (.callp 50 [(.t 19)])),
  (.op (some 22) none (.fad 4 (.t 1))), (.op (some 23) none (.ld (.t 22))), (.op (some 24) none (.callp 51 [(.t 23)])), (.op (some 15) none (.bsl 5 2 [(.int .u8 0),
  (.int .u8 0)] [(0, (1, (.t 11))), (1, (1, (.t 14)))])), (.chk 18 none (.ld (.t 17))), (.chk 23 none (.ld (.t 22))), (.op (some 16) none (.b2s 5 (.t 15))), (.op (some 21) none
  (.bin .add (.t 16) (.t 20))), (.op (some 25) none (.bin .add (.t 21) (.t 24))), (.op (some 2) none (.mv (.t 25)))]) .ret)))), [(.t 2)]⟩
def k17 : KFunc := ⟨39, (.seq (.reg [(.op (some 2) none (.mv (.c (.string (bs []))))), (.op (some 3) none (.mv (.c (.int .i64 0))))]) (.seq (.reg [(.op (some 4) none
  (.alloc 74 [(.slice none 0 0)]))]) (.seq (.seq (.reg [(.op (some 8) none (.mv (.t 0))), (.op (some 9) none (.lenL (.t 8))), (.op (some 10) none (.mv (.c (.int .i64 0))))])
  (.block 0 (.loop (.seq (.reg [(.op (some 11) none (.bin .lss (.t 10) (.t 9)))]) (.seq (.cond (.t 11) .skip (.exit 0)) (.seq (.block 1 (.seq (.reg [(.op (some 12) none (.iad 5
  (.t 8) (.t 10))), (.op (some 13) none (.ldn 5 (.t 12))), (.op (some 6) none (.alloc 25 [(.int .i64 0), (.int .i64 0), (.int .i64 0), (.bool false), (.string (bs []))])),
  (.op none none (.stn 5 (.t 6) (.t 13)))]) (.seq (.seq (.reg [(.op (some 14) none (.ldn 5 (.t 6))), (.op (some 15) none (.call 14 [(.t 14)])), (.op (some 16) none (.un .not
  (.t 15)))]) (.cond (.t 16) (.seq (.reg [(.op (some 2) none (.mv (.c (.string (bs []))))), (.op (some 3) none (.mv (.c (.int .i64 3))))]) .ret) .skip)) (.seq
  (.reg [(.op (some 17) none (.fad 0 (.t 6))), (.op (some 18) none (.ld (.t 17))), (.op (some 7) none (.mv (.t 18)))]) (.seq (.seq (.reg [(.op (some 19) none (.fad 3 (.t 6))),
  (.op (some 20) none (.ld (.t 19)))]) (.cond (.t 20) (.reg [(.op (some 21) none (.mv (.t 7))), (.op (some 22) none (.bin .or (.t 21) (.c (.int .i64 16)))), (.op (some 7) none
  (.mv (.t 22)))]) .skip)) (.reg [(.op (some 23) none (.mv (.t 7))), (.op (some 24) none (.cvt .u64 (.t 23))), (.op (some 26) none (.fad 1 (.t 6))), (.op (some 27) none (.ld
  (.t 26))), (.op (some 28) none (.cvt .u64 (.t 27))), (.op (some 30) none (.fad 2 (.t 6))), (.op (some 31) none (.ld (.t 30))), (.op (some 32) none (.cvt .u64 (.t 31))),
  (.op (some 34) none (.fad 4 (.t 6))), (.op (some 35) none (.ld (.t 34))), (.op (some 25) none (.call 52 [(.t 4), (.t 24), (.c (.int .i64 1))])), (.chk 27 none (.ld (.t 26))),
  (.chk 31 none (.ld (.t 30))), (.chk 35 none (.ld (.t 34))), (.op (some 29) none (.call 52 [(.t 25), (.t 28), (.c (.int .i64 1))])), (.chk 31 none (.ld (.t 30))), (.chk 35 none
  (.ld (.t 34))), (.op (some 33) none (.call 53 [(.t 29), (.t 32)])), (.chk 35 none (.ld (.t 34))), (.op (some 36) none (.call 54 [(.t 33), (.t 35)]))]))))))
  (.reg [(.op (some 37) none (.bin .add (.t 10) (.c (.int .i64 1)))), (.op (some 10) none (.mv (.t 37)))]))))))) (.seq (.reg [(.op (some 38) none (.call 55 [(.t 4)])),
  (.op (some 2) none (.mv (.t 38))), (.op (some 3) none (.mv (.c (.int .i64 0))))]) .ret)))), [(.t 2), (.t 3)]⟩
def k18 : KFunc := ⟨37, (.seq (.reg [(.op (some 2) none (.mv (.c (.slice none 0 0)))), (.op (some 3) none (.mv (.c (.int .i64 0)))), (.op (some 4) none (.mv (.c (.int .i64 0))))])
  (.seq (.reg [(.op (some 5) none (.mv (.c (.slice none 0 0))))]) (.seq (.seq (.reg [(.op (some 6) none (.mv (.c (.int .i64 0))))]) (.block 0 (.loop (.seq (.seq
  (.reg [(.op (some 10) none (.mv (.t 6))), (.op (some 11) none (.mv (.t 0))), (.op (some 12) none (.lenS (.t 11))), (.op (some 13) none (.bin .lss (.t 10) (.t 12)))]) (.cond
  (.t 13) .skip (.exit 0))) (.block 1 (.seq (.reg [(.op (some 14) none (.mv (.t 0))), (.op (some 15) none (.mv (.t 6))), (.op (some 16) none (.slS (.t 14) (some (.t 15)) none)),
  (.op (some 17) none (.call 49 [(.t 16)])), (.op (some 7) none (.mv (.t 17)))]) (.seq (.reg [(.op (some 19) none (.mv (.t 7))), (.op (some 20) none (.call 56 [(.t 19)])),
  (.op (some 18) none (.mv (.t 20))), (.op (some 21) none (.xt (.t 18) 0)), (.op (some 22) none (.xt (.t 18) 1)), (.op (some 8) none (.alloc 25 [(.int .i64 0), (.int .i64 0),
  (.int .i64 0), (.bool false), (.string (bs []))])), (.op none none (.stn 5 (.t 8) (.t 21))), (.op (some 9) none (.mv (.t 22)))]) (.seq (.seq (.reg [(.op (some 23) none (.mv
  (.t 9))), (.op (some 24) none (.un .not (.t 23)))]) (.cond (.t 24) (.seq (.reg [(.op (some 25) none (.mv (.t 6))), (.op (some 2) none (.mv (.c (.slice none 0 0)))),
  (.op (some 3) none (.mv (.c (.int .i64 3)))), (.op (some 4) none (.mv (.t 25)))]) .ret) .skip)) (.seq (.reg [(.op (some 26) none (.mv (.t 5))), (.op (some 27) none (.ldn 5
  (.t 8))), (.op (some 28) none (.bsl 25 1 [(.int .i64 0), (.int .i64 0), (.int .i64 0), (.bool false), (.string (bs []))] [(0, (5, (.t 27)))])), (.op (some 29) none (.app 25 5 48
  (.t 26) (.t 28))), (.op (some 5) none (.mv (.t 29)))]) (.reg [(.op (some 30) none (.mv (.t 0))), (.op (some 31) none (.lenS (.t 30))), (.op (some 32) none (.mv (.t 7))),
  (.op (some 33) none (.call 57 [(.t 32)])), (.op (some 34) none (.lenS (.t 33))), (.op (some 35) none (.bin .sub (.t 31) (.t 34))), (.op (some 6) none (.mv (.t 35)))]))))))))))
  (.seq (.reg [(.op (some 36) none (.mv (.t 5))), (.op (some 2) none (.mv (.t 36))), (.op (some 3) none (.mv (.c (.int .i64 0)))), (.op (some 4) none (.mv (.c
  (.int .i64 0))))]) .ret)))), [(.t 2), (.t 3), (.t 4)]⟩
def k19 : KFunc := ⟨26, (.seq (.reg [(.op (some 4) none (.mv (.c (.bool false))))]) (.seq (.seq (.reg [(.op (some 6) none (.mv (.t 0))), (.op (some 7) none (.lenL (.t 6))),
  (.op (some 8) none (.mv (.t 1))), (.op (some 9) none (.lenL (.t 8))), (.op (some 10) none (.bin .neq (.t 7) (.t 9)))]) (.cond (.t 10) (.seq (.reg [(.op (some 4) none (.mv (.c
  (.bool false))))]) .ret) .skip)) (.seq (.seq (.reg [(.op (some 11) none (.mv (.t 0))), (.op (some 12) none (.lenL (.t 11))), (.op (some 13) none (.mv (.c (.int .i64 0))))])
  (.block 0 (.loop (.seq (.reg [(.op (some 14) none (.bin .lss (.t 13) (.t 12)))]) (.seq (.cond (.t 14) .skip (.exit 0)) (.seq (.block 1 (.seq (.reg [(.op (some 15) none (.mv
  (.t 13))), (.op (some 5) none (.mv (.t 15)))]) (.seq (.reg [(.op (some 16) none (.mv (.t 0))), (.op (some 17) none (.mv (.t 5))), (.op (some 18) none (.iad 5 (.t 16) (.t 17))),
  (.op (some 19) none (.ldn 5 (.t 18))), (.op (some 20) none (.mv (.t 1))), (.op (some 21) none (.mv (.t 5))), (.op (some 22) none (.iad 5 (.t 20) (.t 21))), (.op (some 23) none
  (.ldn 5 (.t 22))), (.op (some 24) none (.eqv (.agg [.int, .int, .int, .bool, .str]) true (.t 19) (.t 23)))]) (.cond (.t 24) (.seq (.reg [(.op (some 4) none (.mv (.c
  (.bool false))))]) .ret) .skip)))) (.reg [(.op (some 25) none (.bin .add (.t 13) (.c (.int .i64 1)))), (.op (some 13) none (.mv (.t 25)))]))))))) (.seq (.reg [(.op (some 4) none
  (.mv (.c (.bool true))))]) .ret)))), [(.t 4)]⟩
def k20 : KFunc := ⟨89, (.seq (.reg [(.op (some 2) none (.alloc 25 [(.int .i64 0), (.int .i64 0), (.int .i64 0), (.bool false), (.string (bs []))])), (.op (some 3) none (.mv (.c
  (.int .i64 0))))]) (.seq (.reg [(.op (some 4) none (.alloc 25 [(.int .i64 0), (.int .i64 0), (.int .i64 0), (.bool false), (.string (bs []))]))]) (.seq (.seq
  (.reg [(.op (some 10) none (.mv (.t 0))), (.op (some 11) none (.lenS (.t 10))), (.op (some 12) none (.bin .lss (.t 11) (.c (.int .i64 2)))), (.op (some 13) none (.mv (.t 12))),
  (.op (some 14) (some (13, false)) (.mv (.t 0))), (.op (some 15) (some (13, false)) (.idS (.t 14) (.c (.int .i64 0)))), (.op (some 16) (some (13, false)) (.bin .geq (.t 15) (.c
  (.int .u8 32)))), (.op (some 17) none (.pick (.t 13) (.c (.bool true)) (.t 16)))]) (.cond (.t 17) (.seq (.reg [(.op (some 18) none (.ldn 5 (.t 4))), (.op none none (.stn 5
  (.t 2) (.t 18))), (.op (some 3) none (.mv (.c (.int .i64 0))))]) .ret) .skip)) (.seq (.reg [(.op (some 20) none (.mv (.t 0))), (.op (some 21) none (.slS (.t 20) (some (.c
  (.int .i64 2))) none)), (.op (some 22) none (.call 58 [(.t 21)])), (.op (some 19) none (.mv (.t 22))), (.op (some 23) none (.xt (.t 19) 0)), (.op (some 24) none (.xt
  (.t 19) 1)), (.op (some 5) none (.mv (.t 23))), (.op (some 6) none (.mv (.t 24)))]) (.seq (.seq (.reg [(.op (some 25) none (.mv (.t 6))), (.op (some 26) none (.bin .eql (.t 25)
  (.c (.int .i64 0)))), (.op (some 27) none (.mv (.t 26))), (.op (some 28) (some (27, false)) (.mv (.t 5))), (.op (some 29) (some (27, false)) (.bin .gtr (.t 28) (.c
  (.int .u64 1073741824)))), (.op (some 30) none (.pick (.t 27) (.c (.bool true)) (.t 29)))]) (.cond (.t 30) (.seq (.reg [(.op (some 31) none (.ldn 5 (.t 4))), (.op none none
  (.stn 5 (.t 2) (.t 31))), (.op (some 3) none (.mv (.c (.int .i64 0))))]) .ret) .skip)) (.seq (.reg [(.op (some 33) none (.mv (.t 0))), (.op (some 34) none (.mv (.t 6))),
  (.op (some 35) none (.bin .add (.c (.int .i64 2)) (.t 34))), (.op (some 36) none (.slS (.t 33) (some (.t 35)) none)), (.op (some 37) none (.call 58 [(.t 36)])),
  (.op (some 32) none (.mv (.t 37))), (.op (some 38) none (.xt (.t 32) 0)), (.op (some 39) none (.xt (.t 32) 1)), (.op (some 7) none (.mv (.t 38))), (.op (some 8) none (.mv
  (.t 39)))]) (.seq (.reg [(.op (some 40) none (.mv (.t 6))), (.op (some 41) none (.bin .add (.c (.int .i64 2)) (.t 40))), (.op (some 42) none (.mv (.t 8))), (.op (some 43) none
  (.bin .add (.t 41) (.t 42))), (.op (some 9) none (.mv (.t 43)))]) (.seq (.seq (.reg [(.op (some 44) none (.mv (.t 8))), (.op (some 45) none (.bin .eql (.t 44) (.c
  (.int .i64 0)))), (.op (some 46) none (.mv (.t 45))), (.op (some 47) (some (46, false)) (.mv (.t 7))), (.op (some 48) (some (46, false)) (.bin .gtr (.t 47) (.c
  (.int .u64 600)))), (.op (some 49) none (.pick (.t 46) (.c (.bool true)) (.t 48))), (.op (some 50) none (.mv (.t 49))), (.op (some 51) (some (50, false)) (.mv (.t 7))),
  (.op (some 52) (some (50, false)) (.mv (.t 0))), (.op (some 53) (some (50, false)) (.lenS (.t 52))), (.op (some 54) (some (50, false)) (.mv (.t 9))), (.op (some 55) (some (50,
  false)) (.bin .sub (.t 53) (.t 54))), (.op (some 56) (some (50, false)) (.cvt .u64 (.t 55))), (.op (some 57) (some (50, false)) (.bin .gtr (.t 51) (.t 56))), (.op (some 58) none
  (.pick (.t 50) (.c (.bool true)) (.t 57)))]) (.cond (.t 58) (.seq (.reg [(.op (some 59) none (.ldn 5 (.t 4))), (.op none none (.stn 5 (.t 2) (.t 59))), (.op (some 3) none (.mv
  (.c (.int .i64 0))))]) .ret) .skip)) (.seq (.reg [(.op (some 60) none (.mv (.t 0))), (.op (some 61) none (.idS (.t 60) (.c (.int .i64 0)))), (.op (some 62) none (.cvt .i64
  (.t 61))), (.op (some 63) none (.bin .rem (.t 62) (.c (.int .i64 16)))), (.op (some 64) none (.mv (.t 0))), (.op (some 65) none (.idS (.t 64) (.c (.int .i64 0)))),
  (.op (some 66) none (.bin .geq (.t 65) (.c (.int .u8 16)))), (.op (some 67) none (.mv (.t 0))), (.op (some 68) none (.idS (.t 67) (.c (.int .i64 1)))), (.op (some 69) none
  (.cvt .i64 (.t 68))), (.op (some 70) none (.mv (.t 5))), (.op (some 71) none (.cvt .i64 (.t 70))), (.op (some 72) none (.mv (.t 0))), (.op (some 73) none (.mv (.t 9))),
  (.op (some 74) none (.mv (.t 9))), (.op (some 75) none (.mv (.t 7))), (.op (some 76) none (.cvt .i64 (.t 75))), (.op (some 77) none (.bin .add (.t 74) (.t 76))),
  (.op (some 78) none (.slS (.t 72) (some (.t 73)) (some (.t 77)))), (.op (some 79) none (.build [(.int .i64 0), (.int .i64 0), (.int .i64 0), (.bool false),
  (.string (bs []))] [(0, (1, (.t 63))), (3, (1, (.t 66))), (1, (1, (.t 69))), (2, (1, (.t 71))), (4, (1, (.t 78)))])), (.op none none (.stn 5 (.t 4) (.t 79)))]) (.seq (.seq
  (.reg [(.op (some 80) none (.ldn 5 (.t 4))), (.op (some 81) none (.call 15 [(.t 80)])), (.op (some 82) none (.un .not (.t 81)))]) (.cond (.t 82) (.seq (.reg [(.op (some 83) none
  (.build [(.int .i64 0), (.int .i64 0), (.int .i64 0), (.bool false), (.string (bs []))] [])), (.op none none (.stn 5 (.t 2) (.t 83))), (.op (some 3) none (.mv (.c
  (.int .i64 0))))]) .ret) .skip)) (.seq (.reg [(.op (some 84) none (.ldn 5 (.t 4))), (.op (some 85) none (.mv (.t 9))), (.op (some 86) none (.mv (.t 7))), (.op (some 87) none
  (.cvt .i64 (.t 86))), (.op (some 88) none (.bin .add (.t 85) (.t 87))), (.op none none (.stn 5 (.t 2) (.t 84))), (.op (some 3) none (.mv (.t 88)))]) .ret))))))))))), [(.cn 2 5),
  (.t 3)]⟩
def k49 : KFunc := ⟨6, (.seq (.reg [(.op (some 2) none (.mv (.c (.pointer none))))]) (.seq (.reg [(.op (some 3) none (.mv (.t 0))), (.op (some 4) none (.build [(.string (bs [])),
  (.bool false)] [(0, (1, (.t 3)))])), (.op (some 5) none (.box 134 (.t 4))), (.op (some 2) none (.mv (.t 5)))]) .ret)), [(.t 2)]⟩
def k50 : KFunc := ⟨22, (.seq (.reg [(.op (some 2) none (.mv (.c (.string (bs [])))))]) (.seq (.reg [(.op (some 3) none (.mv (.c (.string (bs [])))))]) (.seq (.block 0 (.loop
  (.seq (.seq (.reg [(.op (some 4) none (.mv (.t 0))), (.op (some 5) none (.bin .geq (.t 4) (.c (.int .u64 128))))]) (.cond (.t 5) .skip (.exit 0))) (.block 1 (.seq
  (.reg [(.op (some 6) none (.mv (.t 3))), (.op (some 7) none (.mv (.t 0))), (.op (some 8) none (.bin .rem (.t 7) (.c (.int .u64 128)))), (.op (some 9) none (.bin .add (.t 8) (.c
  (.int .u64 128)))), (.op (some 10) none (.cvt .u8 (.t 9))), (.op (some 11) none (.bsl 5 1 [(.int .u8 0)] [(0, (1, (.t 10)))])), (.op (some 12) none (.b2s 5 (.t 11))),
  (.op (some 13) none (.bin .add (.t 6) (.t 12))), (.op (some 3) none (.mv (.t 13)))]) (.reg [(.op (some 14) none (.mv (.t 0))), (.op (some 15) none (.bin .quo (.t 14) (.c
  (.int .u64 128)))), (.op (some 0) none (.mv (.t 15)))])))))) (.seq (.reg [(.op (some 16) none (.mv (.t 3))), (.op (some 17) none (.mv (.t 0))), (.op (some 18) none (.cvt .u8
  (.t 17))), (.op (some 19) none (.bsl 5 1 [(.int .u8 0)] [(0, (1, (.t 18)))])), (.op (some 20) none (.b2s 5 (.t 19))), (.op (some 21) none (.bin .add (.t 16) (.t 20))),
  (.op (some 2) none (.mv (.t 21)))]) .ret)))), [(.t 2)]⟩
def k51 : KFunc := ⟨9, (.seq (.reg [(.op (some 2) none (.mv (.c (.string (bs [])))))]) (.seq (.reg [(.op (some 3) none (.mv (.t 0))), (.op (some 4) none (.lenS (.t 3))),
  (.op (some 5) none (.cvt .u64 (.t 4))), (.op (some 6) none (.call 50 [(.t 5)])), (.op (some 7) none (.mv (.t 0))), (.op (some 8) none (.bin .add (.t 6) (.t 7))),
  (.op (some 2) none (.mv (.t 8)))]) .ret)), [(.t 2)]⟩
def k52 : KFunc := ⟨28, (.seq (.reg [(.op (some 6) none (.mv (.c (.pointer none))))]) (.seq (.seq (.reg [(.op (some 7) none (.mv (.t 0))), (.op (some 8) none (.eqv .ptr false
  (.t 7) (.c (.pointer none))))]) (.cond (.t 8) (.seq (.reg [(.op (some 6) none (.mv (.c (.pointer none))))]) .ret) .skip)) (.seq (.seq (.reg [(.op (some 9) none (.mv (.t 2))),
  (.op (some 10) none (.call 105 [(.t 9)])), (.op (some 11) none (.mv (.c (.int .i64 0))))]) (.block 0 (.loop (.seq (.reg [(.op (some 12) none (.bin .lss (.t 11) (.t 10)))]) (.seq
  (.cond (.t 12) .skip (.exit 0)) (.seq (.block 1 (.seq (.reg [(.op (some 13) none (.mv (.t 0))), (.op (some 14) none (.mv (.t 0))), (.op (some 15) none (.nck (.t 14))),
  (.op (some 16) none (.fad 0 (.t 15))), (.op (some 17) none (.ld (.t 16))), (.op (some 18) none (.mv (.t 1))), (.op (some 19) none (.cvt .u8 (.t 18))), (.op (some 20) none
  (.bsl 5 1 [(.int .u8 0)] [(0, (1, (.t 19)))])), (.op (some 21) none (.app 5 1 1 (.t 17) (.t 20))), (.op (some 22) none (.nck (.t 13))), (.op (some 23) none (.fad 0 (.t 22))),
  (.op none none (.st (.t 23) (.t 21)))]) (.reg [(.op (some 24) none (.mv (.t 1))), (.op (some 25) none (.bin .shr (.t 24) (.c (.int .u64 8)))), (.op (some 1) none (.mv
  (.t 25)))]))) (.reg [(.op (some 26) none (.bin .add (.t 11) (.c (.int .i64 1)))), (.op (some 11) none (.mv (.t 26)))]))))))) (.seq (.reg [(.op (some 27) none (.mv (.t 0))),
  (.op (some 6) none (.mv (.t 27)))]) .ret)))), [(.t 6)]⟩
def k53 : KFunc := ⟨35, (.seq (.reg [(.op (some 4) none (.mv (.c (.pointer none))))]) (.seq (.seq (.reg [(.op (some 5) none (.mv (.t 0))), (.op (some 6) none (.eqv .ptr false
  (.t 5) (.c (.pointer none))))]) (.cond (.t 6) (.seq (.reg [(.op (some 4) none (.mv (.c (.pointer none))))]) .ret) .skip)) (.seq (.block 0 (.loop (.seq (.seq
  (.reg [(.op (some 7) none (.mv (.t 1))), (.op (some 8) none (.bin .gtr (.t 7) (.c (.int .u64 127))))]) (.cond (.t 8) .skip (.exit 0))) (.block 1 (.seq (.reg [(.op (some 9) none
  (.mv (.t 0))), (.op (some 10) none (.mv (.t 0))), (.op (some 11) none (.nck (.t 10))), (.op (some 12) none (.fad 0 (.t 11))), (.op (some 13) none (.ld (.t 12))),
  (.op (some 14) none (.mv (.t 1))), (.op (some 15) none (.cvt .u8 (.t 14))), (.op (some 16) none (.bin .or (.t 15) (.c (.int .u8 128)))), (.op (some 17) none
  (.bsl 5 1 [(.int .u8 0)] [(0, (1, (.t 16)))])), (.op (some 18) none (.app 5 1 1 (.t 13) (.t 17))), (.op (some 19) none (.nck (.t 9))), (.op (some 20) none (.fad 0 (.t 19))),
  (.op none none (.st (.t 20) (.t 18)))]) (.reg [(.op (some 21) none (.mv (.t 1))), (.op (some 22) none (.bin .shr (.t 21) (.c (.int .u64 7)))), (.op (some 1) none (.mv
  (.t 22)))])))))) (.seq (.reg [(.op (some 23) none (.mv (.t 0))), (.op (some 24) none (.mv (.t 0))), (.op (some 25) none (.nck (.t 24))), (.op (some 26) none (.fad 0 (.t 25))),
  (.op (some 27) none (.ld (.t 26))), (.op (some 28) none (.mv (.t 1))), (.op (some 29) none (.cvt .u8 (.t 28))), (.op (some 30) none (.bsl 5 1 [(.int .u8 0)] [(0, (1,
  (.t 29)))])), (.op (some 31) none (.app 5 1 1 (.t 27) (.t 30))), (.op (some 32) none (.nck (.t 23))), (.op (some 33) none (.fad 0 (.t 32))), (.op none none (.st (.t 33)
  (.t 31)))]) (.seq (.reg [(.op (some 34) none (.mv (.t 0))), (.op (some 4) none (.mv (.t 34)))]) .ret))))), [(.t 4)]⟩
def k54 : KFunc := ⟨12, (.seq (.reg [(.op (some 4) none (.mv (.c (.pointer none))))]) (.seq (.reg [(.op (some 5) none (.mv (.t 0))), (.op (some 6) none (.mv (.t 1))),
  (.op (some 7) none (.lenS (.t 6))), (.op (some 8) none (.cvt .u64 (.t 7))), (.op (some 9) none (.call 53 [(.t 5), (.t 8)])), (.op (some 10) none (.mv (.t 1))),
  (.op (some 11) none (.call 97 [(.t 9), (.t 10)])), (.op (some 4) none (.mv (.t 11)))]) .ret)), [(.t 4)]⟩
def k55 : KFunc := ⟨10, (.seq (.reg [(.op (some 2) none (.mv (.c (.string (bs [])))))]) (.seq (.seq (.reg [(.op (some 3) none (.mv (.t 0))), (.op (some 4) none (.eqv .ptr false
  (.t 3) (.c (.pointer none))))]) (.cond (.t 4) (.seq (.reg [(.op (some 2) none (.mv (.c (.string (bs [])))))]) .ret) .skip)) (.seq (.reg [(.op (some 5) none (.mv (.t 0))),
  (.op (some 6) none (.nck (.t 5))), (.op (some 7) none (.fad 0 (.t 6))), (.op (some 8) none (.ld (.t 7))), (.op (some 9) none (.b2s 5 (.t 8))), (.op (some 2) none (.mv
  (.t 9)))]) .ret))), [(.t 2)]⟩
def k56 : KFunc := ⟨34, (.seq (.reg [(.op (some 2) none (.alloc 25 [(.int .i64 0), (.int .i64 0), (.int .i64 0), (.bool false), (.string (bs []))])), (.op (some 3) none (.mv (.c
  (.bool false))))]) (.seq (.reg [(.op (some 6) none (.mv (.t 0))), (.op (some 7) none (.call 99 [(.t 6), (.c (.int .i64 1))])), (.op (some 8) none (.cvt .i64 (.t 7))),
  (.op (some 4) none (.mv (.t 8)))]) (.seq (.reg [(.op (some 9) none (.mv (.t 4))), (.op (some 10) none (.bin .and (.t 9) (.c (.int .i64 15)))), (.op (some 11) none (.mv (.t 4))),
  (.op (some 12) none (.bin .and (.t 11) (.c (.int .i64 16)))), (.op (some 13) none (.bin .neq (.t 12) (.c (.int .i64 0)))), (.op (some 14) none (.mv (.t 0))), (.op (some 15) none
  (.call 99 [(.t 14), (.c (.int .i64 1))])), (.op (some 16) none (.cvt .i64 (.t 15))), (.op (some 17) none (.mv (.t 0))), (.op (some 18) none (.call 100 [(.t 17), (.c
  (.int .i64 1073741824))])), (.op (some 19) none (.mv (.t 0))), (.op (some 20) none (.call 106 [(.t 19), (.c (.int .i64 600))])), (.op (some 21) none (.build [(.int .i64 0),
  (.int .i64 0), (.int .i64 0), (.bool false), (.string (bs []))] [(0, (1, (.t 10))), (3, (1, (.t 13))), (1, (1, (.t 16))), (2, (1, (.t 18))), (4, (1, (.t 20)))])),
  (.op (some 5) none (.alloc 25 [(.int .i64 0), (.int .i64 0), (.int .i64 0), (.bool false), (.string (bs []))])), (.op none none (.stn 5 (.t 5) (.t 21)))]) (.seq
  (.reg [(.op (some 22) none (.ldn 5 (.t 5))), (.op (some 23) none (.mv (.t 0))), (.op (some 24) none (.call 101 [(.t 23)])), (.chk 22 none (.ldn 5 (.t 5))), (.op (some 25) none
  (.un .not (.t 24))), (.op (some 26) none (.mv (.t 25))), (.op (some 27) (some (26, true)) (.mv (.t 4))), (.op (some 28) (some (26, true)) (.bin .leq (.t 27) (.c
  (.int .i64 31)))), (.op (some 29) none (.pick (.t 26) (.t 28) (.c (.bool false)))), (.op (some 30) none (.mv (.t 29))), (.op (some 31) (some (30, true)) (.ldn 5 (.t 5))),
  (.op (some 32) (some (30, true)) (.call 14 [(.t 31)])), (.chk 22 none (.ldn 5 (.t 5))), (.op (some 33) none (.pick (.t 30) (.t 32) (.c (.bool false)))), (.op none none (.stn 5
  (.t 2) (.t 22))), (.op (some 3) none (.mv (.t 33)))]) .ret)))), [(.cn 2 5), (.t 3)]⟩
def k57 : KFunc := ⟨12, (.seq (.reg [(.op (some 2) none (.mv (.c (.string (bs [])))))]) (.seq (.seq (.reg [(.op (some 3) none (.mv (.t 0))), (.op (some 4) none
  (.call 101 [(.t 3)]))]) (.cond (.t 4) (.seq (.reg [(.op (some 2) none (.mv (.c (.string (bs [])))))]) .ret) .skip)) (.seq (.reg [(.op (some 5) none (.mv (.t 0))),
  (.op (some 6) none (.mv (.t 0))), (.op (some 7) none (.nck (.t 6))), (.op (some 8) none (.fad 0 (.t 7))), (.op (some 9) none (.ld (.t 8))), (.op (some 10) none (.lenS (.t 9))),
  (.op (some 11) none (.call 102 [(.t 5), (.t 10)])), (.op (some 2) none (.mv (.t 11)))]) .ret))), [(.t 2)]⟩
def k58 : KFunc := ⟨52, (.seq (.reg [(.op (some 2) none (.mv (.c (.int .u64 0)))), (.op (some 3) none (.mv (.c (.int .i64 0))))]) (.seq (.reg [(.op (some 4) none (.mv (.c
  (.int .i64 0))))]) (.seq (.block 0 (.loop (.seq (.seq (.reg [(.op (some 7) none (.mv (.t 4))), (.op (some 8) none (.mv (.t 0))), (.op (some 9) none (.lenS (.t 8))),
  (.op (some 10) none (.bin .lss (.t 7) (.t 9))), (.op (some 11) none (.mv (.t 10))), (.op (some 12) (some (11, true)) (.mv (.t 0))), (.op (some 13) (some (11, true)) (.mv
  (.t 4))), (.op (some 14) (some (11, true)) (.idS (.t 12) (.t 13))), (.op (some 15) (some (11, true)) (.bin .geq (.t 14) (.c (.int .u8 128)))), (.op (some 16) none (.pick (.t 11)
  (.t 15) (.c (.bool false))))]) (.cond (.t 16) .skip (.exit 0))) (.block 1 (.reg [(.op (some 17) none (.mv (.t 4))), (.op (some 18) none (.bin .add (.t 17) (.c (.int .i64 1)))),
  (.op (some 4) none (.mv (.t 18)))]))))) (.seq (.seq (.reg [(.op (some 19) none (.mv (.t 4))), (.op (some 20) none (.mv (.t 0))), (.op (some 21) none (.lenS (.t 20))),
  (.op (some 22) none (.bin .eql (.t 19) (.t 21))), (.op (some 23) none (.mv (.t 22))), (.op (some 24) (some (23, false)) (.mv (.t 4))), (.op (some 25) (some (23, false))
  (.bin .gtr (.t 24) (.c (.int .i64 9)))), (.op (some 26) none (.pick (.t 23) (.c (.bool true)) (.t 25)))]) (.cond (.t 26) (.seq (.reg [(.op (some 2) none (.mv (.c
  (.int .u64 0)))), (.op (some 3) none (.mv (.c (.int .i64 0))))]) .ret) .skip)) (.seq (.reg [(.op (some 5) none (.mv (.c (.int .u64 0))))]) (.seq (.seq (.reg [(.op (some 27) none
  (.mv (.t 4))), (.op (some 6) none (.mv (.t 27)))]) (.block 2 (.loop (.seq (.seq (.reg [(.op (some 28) none (.mv (.t 6))), (.op (some 29) none (.bin .geq (.t 28) (.c
  (.int .i64 0))))]) (.cond (.t 29) .skip (.exit 2))) (.seq (.block 3 (.seq (.seq (.reg [(.op (some 32) none (.mv (.t 5))), (.op (some 33) none (.bin .gtr (.t 32) (.c
  (.int .u64 144115188075855871))))]) (.cond (.t 33) (.seq (.reg [(.op (some 2) none (.mv (.c (.int .u64 0)))), (.op (some 3) none (.mv (.c (.int .i64 0))))]) .ret) .skip))
  (.reg [(.op (some 34) none (.mv (.t 5))), (.op (some 35) none (.bin .mul (.t 34) (.c (.int .u64 128)))), (.op (some 36) none (.mv (.t 0))), (.op (some 37) none (.mv (.t 6))),
  (.op (some 38) none (.idS (.t 36) (.t 37))), (.op (some 39) none (.bin .rem (.t 38) (.c (.int .u8 128)))), (.op (some 40) none (.cvt .u64 (.t 39))), (.op (some 41) none
  (.bin .add (.t 35) (.t 40))), (.op (some 5) none (.mv (.t 41)))]))) (.reg [(.op (some 30) none (.mv (.t 6))), (.op (some 31) none (.bin .sub (.t 30) (.c (.int .i64 1)))),
  (.op (some 6) none (.mv (.t 31)))])))))) (.seq (.seq (.reg [(.op (some 42) none (.mv (.t 5))), (.op (some 44) none (.mv (.t 0))), (.op (some 45) none (.mv (.t 4))),
  (.op (some 46) none (.bin .add (.t 45) (.c (.int .i64 1)))), (.op (some 47) none (.slS (.t 44) none (some (.t 46)))), (.op (some 43) none (.call 50 [(.t 42)])),
  (.op (some 48) none (.bin .neq (.t 43) (.t 47)))]) (.cond (.t 48) (.seq (.reg [(.op (some 2) none (.mv (.c (.int .u64 0)))), (.op (some 3) none (.mv (.c
  (.int .i64 0))))]) .ret) .skip)) (.seq (.reg [(.op (some 49) none (.mv (.t 5))), (.op (some 50) none (.mv (.t 4))), (.op (some 51) none (.bin .add (.t 50) (.c (.int .i64 1)))),
  (.op (some 2) none (.mv (.t 49))), (.op (some 3) none (.mv (.t 51)))]) .ret)))))))), [(.t 2), (.t 3)]⟩
def k59 : KFunc := ⟨25, (.seq (.reg [(.op (some 2) none (.mv (.c (.bool false))))]) (.seq (.seq (.reg [(.op (some 3) none (.mv (.c (.int .i64 0))))]) (.block 0 (.loop (.seq (.seq
  (.reg [(.op (some 4) none (.mv (.t 3))), (.op (some 5) none (.mv (.t 0))), (.op (some 6) none (.lenL (.t 5))), (.op (some 7) none (.bin .lss (.t 4) (.t 6)))]) (.cond
  (.t 7) .skip (.exit 0))) (.seq (.block 1 (.seq (.reg [(.op (some 10) none (.mv (.t 0))), (.op (some 11) none (.mv (.t 3))), (.op (some 12) none (.iad 1 (.t 10) (.t 11))),
  (.op (some 13) none (.ld (.t 12))), (.op (some 14) none (.bin .lss (.t 13) (.c (.int .i64 0)))), (.op (some 15) none (.mv (.t 14))), (.op (some 16) (some (15, false)) (.mv
  (.t 0))), (.op (some 17) (some (15, false)) (.mv (.t 3))), (.op (some 18) (some (15, false)) (.iad 1 (.t 16) (.t 17))), (.op (some 19) (some (15, false)) (.ld (.t 18))),
  (.op (some 20) (some (15, false)) (.bin .gtr (.t 19) (.c (.int .i64 11)))), (.op (some 21) none (.pick (.t 15) (.c (.bool true)) (.t 20)))]) (.cond (.t 21) (.seq
  (.reg [(.op (some 2) none (.mv (.c (.bool false))))]) .ret) .skip))) (.reg [(.op (some 8) none (.mv (.t 3))), (.op (some 9) none (.bin .add (.t 8) (.c (.int .i64 1)))),
  (.op (some 3) none (.mv (.t 9)))])))))) (.seq (.reg [(.op (some 22) none (.mv (.t 0))), (.op (some 23) none (.lenL (.t 22))), (.op (some 24) none (.bin .leq (.t 23) (.c
  (.int .i64 256)))), (.op (some 2) none (.mv (.t 24)))]) .ret))), [(.t 2)]⟩
def k60 : KFunc := ⟨13, (.seq (.reg [(.op (some 2) none (.mv (.c (.int .i64 0))))]) (.seq (.reg [(.op (some 3) none (.mv (.c (.int .i64 1))))]) (.seq (.seq
  (.reg [(.op (some 4) none (.mv (.c (.int .i64 0))))]) (.block 0 (.loop (.seq (.seq (.reg [(.op (some 5) none (.mv (.t 4))), (.op (some 6) none (.mv (.t 0))), (.op (some 7) none
  (.bin .lss (.t 5) (.t 6)))]) (.cond (.t 7) .skip (.exit 0))) (.seq (.block 1 (.reg [(.op (some 10) none (.mv (.t 3))), (.op (some 11) none (.bin .mul (.t 10) (.c
  (.int .i64 2)))), (.op (some 3) none (.mv (.t 11)))])) (.reg [(.op (some 8) none (.mv (.t 4))), (.op (some 9) none (.bin .add (.t 8) (.c (.int .i64 1)))), (.op (some 4) none
  (.mv (.t 9)))])))))) (.seq (.reg [(.op (some 12) none (.mv (.t 3))), (.op (some 2) none (.mv (.t 12)))]) .ret)))), [(.t 2)]⟩
def k92 : KFunc := ⟨21, (.seq (.reg [(.op (some 2) none (.mv (.c (.bool false))))]) (.seq (.seq (.reg [(.op (some 5) none (.mv (.t 0))), (.op (some 6) none (.lenL (.t 5))),
  (.op (some 7) none (.mv (.c (.int .i64 0))))]) (.block 0 (.loop (.seq (.reg [(.op (some 8) none (.bin .lss (.t 7) (.t 6)))]) (.seq (.cond (.t 8) .skip (.exit 0)) (.seq (.block 1
  (.seq (.reg [(.op (some 9) none (.iad 1 (.t 5) (.t 7))), (.op (some 10) none (.ld (.t 9))), (.op (some 4) none (.mv (.t 10)))]) (.seq (.reg [(.op (some 11) none (.mv (.t 4))),
  (.op (some 12) none (.bin .lss (.t 11) (.c (.int .i64 0)))), (.op (some 13) none (.mv (.t 12))), (.op (some 14) (some (13, false)) (.mv (.t 4))), (.op (some 15) (some (13,
  false)) (.bin .gtr (.t 14) (.c (.int .i64 11)))), (.op (some 16) none (.pick (.t 13) (.c (.bool true)) (.t 15)))]) (.cond (.t 16) (.seq (.reg [(.op (some 2) none (.mv (.c
  (.bool false))))]) .ret) .skip)))) (.reg [(.op (some 17) none (.bin .add (.t 7) (.c (.int .i64 1)))), (.op (some 7) none (.mv (.t 17)))]))))))) (.seq (.reg [(.op (some 18) none
  (.mv (.t 0))), (.op (some 19) none (.lenL (.t 18))), (.op (some 20) none (.bin .leq (.t 19) (.c (.int .i64 256)))), (.op (some 2) none (.mv (.t 20)))]) .ret))), [(.t 2)]⟩
def k97 : KFunc := ⟨17, (.seq (.reg [(.op (some 4) none (.mv (.c (.pointer none))))]) (.seq (.seq (.reg [(.op (some 5) none (.mv (.t 0))), (.op (some 6) none (.eqv .ptr false
  (.t 5) (.c (.pointer none))))]) (.cond (.t 6) (.seq (.reg [(.op (some 4) none (.mv (.c (.pointer none))))]) .ret) .skip)) (.seq (.reg [(.op (some 7) none (.mv (.t 0))),
  (.op (some 8) none (.mv (.t 0))), (.op (some 9) none (.nck (.t 8))), (.op (some 10) none (.fad 0 (.t 9))), (.op (some 11) none (.ld (.t 10))), (.op (some 12) none (.mv (.t 1))),
  (.op (some 13) none (.appS 5 (.t 11) (.t 12))), (.op (some 14) none (.nck (.t 7))), (.op (some 15) none (.fad 0 (.t 14))), (.op none none (.st (.t 15) (.t 13)))]) (.seq
  (.reg [(.op (some 16) none (.mv (.t 0))), (.op (some 4) none (.mv (.t 16)))]) .ret)))), [(.t 4)]⟩
def k99 : KFunc := ⟨28, (.seq (.reg [(.op (some 4) none (.mv (.c (.int .u64 0))))]) (.seq (.reg [(.op (some 5) none (.mv (.c (.int .u64 0))))]) (.seq (.seq
  (.reg [(.op (some 8) none (.mv (.t 0))), (.op (some 9) none (.mv (.t 1))), (.op (some 10) none (.call 105 [(.t 9)])), (.op (some 11) none (.call 102 [(.t 8), (.t 10)])),
  (.op (some 12) none (.s2b 5 (.t 11))), (.op (some 13) none (.lenL (.t 12))), (.op (some 14) none (.mv (.c (.int .i64 0))))]) (.block 0 (.loop (.seq (.reg [(.op (some 15) none
  (.bin .lss (.t 14) (.t 13)))]) (.seq (.cond (.t 15) .skip (.exit 0)) (.seq (.block 1 (.seq (.reg [(.op (some 16) none (.mv (.t 14))), (.op (some 17) none (.iad 1 (.t 12)
  (.t 14))), (.op (some 18) none (.ld (.t 17))), (.op (some 6) none (.mv (.t 16))), (.op (some 7) none (.mv (.t 18)))]) (.reg [(.op (some 19) none (.mv (.t 5))),
  (.op (some 20) none (.mv (.t 7))), (.op (some 21) none (.cvt .u64 (.t 20))), (.op (some 22) none (.mv (.t 6))), (.op (some 23) none (.bin .mul (.c (.int .i64 8)) (.t 22))),
  (.op (some 24) none (.bin .shl (.t 21) (.t 23))), (.op (some 25) none (.bin .or (.t 19) (.t 24))), (.op (some 5) none (.mv (.t 25)))]))) (.reg [(.op (some 26) none (.bin .add
  (.t 14) (.c (.int .i64 1)))), (.op (some 14) none (.mv (.t 26)))]))))))) (.seq (.reg [(.op (some 27) none (.mv (.t 5))), (.op (some 4) none (.mv (.t 27)))]) .ret)))), [(.t 4)]⟩
def k100 : KFunc := ⟨24, (.seq (.reg [(.op (some 4) none (.mv (.c (.int .i64 0))))]) (.seq (.reg [(.op (some 6) none (.mv (.t 0))), (.op (some 7) none (.call 125 [(.t 6)])),
  (.op (some 5) none (.mv (.t 7)))]) (.seq (.seq (.reg [(.op (some 8) none (.mv (.t 0))), (.op (some 9) none (.call 101 [(.t 8)])), (.op (some 10) none (.mv (.t 9))),
  (.op (some 11) (some (10, false)) (.mv (.t 1))), (.op (some 12) (some (10, false)) (.bin .lss (.t 11) (.c (.int .i64 0)))), (.op (some 13) none (.pick (.t 10) (.c (.bool true))
  (.t 12))), (.op (some 14) none (.mv (.t 13))), (.op (some 15) (some (14, false)) (.mv (.t 5))), (.op (some 16) (some (14, false)) (.mv (.t 1))), (.op (some 17) (some (14,
  false)) (.cvt .u64 (.t 16))), (.op (some 18) (some (14, false)) (.bin .gtr (.t 15) (.t 17))), (.op (some 19) none (.pick (.t 14) (.c (.bool true)) (.t 18)))]) (.cond (.t 19)
  (.seq (.reg [(.op (some 20) none (.mv (.t 0))), (.op (some 21) none (.call 126 [(.t 20)]))]) (.seq (.reg [(.op (some 4) none (.mv (.c (.int .i64 0))))]) .ret)) .skip)) (.seq
  (.reg [(.op (some 22) none (.mv (.t 5))), (.op (some 23) none (.cvt .i64 (.t 22))), (.op (some 4) none (.mv (.t 23)))]) .ret)))), [(.t 4)]⟩
def k101 : KFunc := ⟨11, (.seq (.reg [(.op (some 2) none (.mv (.c (.bool false))))]) (.seq (.reg [(.op (some 3) none (.mv (.t 0))), (.op (some 4) none (.eqv .ptr false (.t 3) (.c
  (.pointer none)))), (.op (some 5) none (.mv (.t 4))), (.op (some 6) (some (5, false)) (.mv (.t 0))), (.op (some 7) (some (5, false)) (.nck (.t 6))), (.op (some 8) (some (5,
  false)) (.fad 1 (.t 7))), (.op (some 9) (some (5, false)) (.ld (.t 8))), (.op (some 10) none (.pick (.t 5) (.c (.bool true)) (.t 9))), (.op (some 2) none (.mv
  (.t 10)))]) .ret)), [(.t 2)]⟩
def k102 : KFunc := ⟨37, (.seq (.reg [(.op (some 4) none (.mv (.c (.string (bs [])))))]) (.seq (.reg [(.op (some 6) none (.mv (.t 1))), (.op (some 7) none (.mx (.t 6) [(.c
  (.int .i64 0))])), (.op (some 1) none (.mv (.t 7)))]) (.seq (.seq (.reg [(.op (some 8) none (.mv (.t 0))), (.op (some 9) none (.call 101 [(.t 8)])), (.op (some 10) none (.mv
  (.t 9))), (.op (some 11) (some (10, false)) (.mv (.t 0))), (.op (some 12) (some (10, false)) (.nck (.t 11))), (.op (some 13) (some (10, false)) (.fad 0 (.t 12))),
  (.op (some 14) (some (10, false)) (.ld (.t 13))), (.op (some 15) (some (10, false)) (.lenS (.t 14))), (.op (some 16) (some (10, false)) (.mv (.t 1))), (.op (some 17) (some (10,
  false)) (.bin .lss (.t 15) (.t 16))), (.op (some 18) none (.pick (.t 10) (.c (.bool true)) (.t 17)))]) (.cond (.t 18) (.seq (.reg [(.op (some 19) none (.mv (.t 0))),
  (.op (some 20) none (.call 126 [(.t 19)]))]) (.seq (.reg [(.op (some 4) none (.mv (.c (.string (bs [])))))]) .ret)) .skip)) (.seq (.reg [(.op (some 21) none (.mv (.t 0))),
  (.op (some 22) none (.nck (.t 21))), (.op (some 23) none (.fad 0 (.t 22))), (.op (some 24) none (.ld (.t 23))), (.op (some 25) none (.mv (.t 1))), (.op (some 26) none (.slS
  (.t 24) none (some (.t 25)))), (.op (some 5) none (.mv (.t 26)))]) (.seq (.reg [(.op (some 27) none (.mv (.t 0))), (.op (some 28) none (.mv (.t 0))), (.op (some 29) none (.nck
  (.t 28))), (.op (some 30) none (.fad 0 (.t 29))), (.op (some 31) none (.ld (.t 30))), (.op (some 32) none (.mv (.t 1))), (.op (some 33) none (.slS (.t 31) (some (.t 32)) none)),
  (.op (some 34) none (.nck (.t 27))), (.op (some 35) none (.fad 0 (.t 34))), (.op none none (.st (.t 35) (.t 33)))]) (.seq (.reg [(.op (some 36) none (.mv (.t 5))),
  (.op (some 4) none (.mv (.t 36)))]) .ret)))))), [(.t 4)]⟩
def k105 : KFunc := ⟨6, (.seq (.reg [(.op (some 2) none (.mv (.c (.int .i64 0))))]) (.seq (.reg [(.op (some 3) none (.mv (.t 0))), (.op (some 4) none (.mx (.t 3) [(.c
  (.int .i64 0))])), (.op (some 5) none (.mn (.t 4) [(.c (.int .i64 8))])), (.op (some 2) none (.mv (.t 5)))]) .ret)), [(.t 2)]⟩
def k106 : KFunc := ⟨10, (.seq (.reg [(.op (some 4) none (.mv (.c (.string (bs [])))))]) (.seq (.reg [(.op (some 5) none (.mv (.t 0))), (.op (some 6) none (.mv (.t 0))),
  (.op (some 7) none (.mv (.t 1))), (.op (some 8) none (.call 100 [(.t 6), (.t 7)])), (.op (some 9) none (.call 102 [(.t 5), (.t 8)])), (.op (some 4) none (.mv (.t 9)))]) .ret)),
  [(.t 4)]⟩
def k125 : KFunc := ⟨44, (.seq (.reg [(.op (some 2) none (.mv (.c (.int .u64 0))))]) (.seq (.reg [(.op (some 3) none (.mv (.c (.int .u64 0))))]) (.seq (.seq
  (.reg [(.op (some 7) none (.mv (.c (.int .i64 0))))]) (.block 0 (.loop (.seq (.reg [(.op (some 8) none (.bin .lss (.t 7) (.c (.int .i64 10))))]) (.seq (.cond (.t 8) .skip
  (.exit 0)) (.seq (.block 1 (.seq (.reg [(.op (some 9) none (.mv (.t 7))), (.op (some 4) none (.mv (.t 9)))]) (.seq (.reg [(.op (some 10) none (.mv (.t 0))), (.op (some 11) none
  (.call 102 [(.t 10), (.c (.int .i64 1))])), (.op (some 5) none (.mv (.t 11)))]) (.seq (.seq (.reg [(.op (some 12) none (.mv (.t 5))), (.op (some 13) none (.bin .eql (.t 12) (.c
  (.string (bs [])))))]) (.cond (.t 13) (.seq (.reg [(.op (some 2) none (.mv (.c (.int .u64 0))))]) .ret) .skip)) (.seq (.reg [(.op (some 14) none (.mv (.t 5))),
  (.op (some 15) none (.idS (.t 14) (.c (.int .i64 0)))), (.op (some 16) none (.cvt .u64 (.t 15))), (.op (some 6) none (.mv (.t 16)))]) (.seq (.seq (.reg [(.op (some 17) none (.mv
  (.t 4))), (.op (some 18) none (.bin .eql (.t 17) (.c (.int .i64 9)))), (.op (some 19) none (.mv (.t 18))), (.op (some 20) (some (19, true)) (.mv (.t 6))),
  (.op (some 21) (some (19, true)) (.bin .gtr (.t 20) (.c (.int .u64 1)))), (.op (some 22) none (.pick (.t 19) (.t 21) (.c (.bool false)))), (.op (some 23) none (.mv (.t 22))),
  (.op (some 24) (some (23, false)) (.mv (.t 4))), (.op (some 25) (some (23, false)) (.bin .gtr (.t 24) (.c (.int .i64 0)))), (.op (some 26) (some (23, false)) (.mv (.t 25))),
  (.op (some 27) (some (26, true)) (.mv (.t 6))), (.op (some 28) (some (26, true)) (.bin .eql (.t 27) (.c (.int .u64 0)))), (.op (some 29) (some (23, false)) (.pick (.t 26)
  (.t 28) (.c (.bool false)))), (.op (some 30) none (.pick (.t 23) (.c (.bool true)) (.t 29)))]) (.cond (.t 30) (.exit 0) .skip)) (.seq (.reg [(.op (some 31) none (.mv (.t 3))),
  (.op (some 32) none (.mv (.t 6))), (.op (some 33) none (.bin .and (.t 32) (.c (.int .u64 127)))), (.op (some 34) none (.mv (.t 4))), (.op (some 35) none (.bin .mul (.c
  (.int .i64 7)) (.t 34))), (.op (some 36) none (.bin .shl (.t 33) (.t 35))), (.op (some 37) none (.bin .or (.t 31) (.t 36))), (.op (some 3) none (.mv (.t 37)))]) (.seq
  (.reg [(.op (some 38) none (.mv (.t 6))), (.op (some 39) none (.bin .lss (.t 38) (.c (.int .u64 128))))]) (.cond (.t 39) (.seq (.reg [(.op (some 40) none (.mv (.t 3))),
  (.op (some 2) none (.mv (.t 40)))]) .ret) .skip))))))))) (.reg [(.op (some 41) none (.bin .add (.t 7) (.c (.int .i64 1)))), (.op (some 7) none (.mv (.t 41)))]))))))) (.seq
  (.reg [(.op (some 42) none (.mv (.t 0))), (.op (some 43) none (.call 126 [(.t 42)]))]) (.seq (.reg [(.op (some 2) none (.mv (.c (.int .u64 0))))]) .ret))))), [(.t 2)]⟩
def k126 : KFunc := ⟨10, (.seq (.reg [(.op (some 2) none (.mv (.t 0))), (.op (some 3) none (.eqv .ptr true (.t 2) (.c (.pointer none))))]) (.cond (.t 3) (.reg [(.op (some 4) none
  (.mv (.t 0))), (.op (some 5) none (.mv (.t 0))), (.op (some 6) none (.nck (.t 4))), (.op (some 7) none (.fad 0 (.t 6))), (.op none none (.st (.t 7) (.c (.string (bs []))))),
  (.op (some 8) none (.nck (.t 5))), (.op (some 9) none (.fad 1 (.t 8))), (.op none none (.st (.t 9) (.c (.bool true))))]) .skip)), []⟩
theorem c3 : okFunc Go.Proofs.Try.prog 3 = true ∧ ∃ fn, Go.Proofs.Try.prog.funcs[3]? = some fn ∧ cFunc Go.Proofs.Try.prog fn = some k3 := ⟨by kernel_rfl, Go.Proofs.Try.f3, Go.Proofs.Try.func3, by kernel_rfl⟩
theorem c4 : okFunc Go.Proofs.Try.prog 4 = true ∧ ∃ fn, Go.Proofs.Try.prog.funcs[4]? = some fn ∧ cFunc Go.Proofs.Try.prog fn = some k4 := ⟨by kernel_rfl, Go.Proofs.Try.f4, Go.Proofs.Try.func4, by kernel_rfl⟩
theorem c13 : okFunc Go.Proofs.Try.prog 13 = true ∧ ∃ fn, Go.Proofs.Try.prog.funcs[13]? = some fn ∧ cFunc Go.Proofs.Try.prog fn = some k13 := ⟨by kernel_rfl, Go.Proofs.Try.f13, Go.Proofs.Try.func13, by kernel_rfl⟩
theorem c14 : okFunc Go.Proofs.Try.prog 14 = true ∧ ∃ fn, Go.Proofs.Try.prog.funcs[14]? = some fn ∧ cFunc Go.Proofs.Try.prog fn = some k14 := ⟨by kernel_rfl, Go.Proofs.Try.f14, Go.Proofs.Try.func14, by kernel_rfl⟩
theorem c15 : okFunc Go.Proofs.Try.prog 15 = true ∧ ∃ fn, Go.Proofs.Try.prog.funcs[15]? = some fn ∧ cFunc Go.Proofs.Try.prog fn = some k15 := ⟨by kernel_rfl, Go.Proofs.Try.f15, Go.Proofs.Try.func15, by kernel_rfl⟩
theorem c16 : okFunc Go.Proofs.Try.prog 16 = true ∧ ∃ fn, Go.Proofs.Try.prog.funcs[16]? = some fn ∧ cFunc Go.Proofs.Try.prog fn = some k16 := ⟨by kernel_rfl, Go.Proofs.Try.f16, Go.Proofs.Try.func16, by kernel_rfl⟩
theorem c17 : okFunc Go.Proofs.Try.prog 17 = true ∧ ∃ fn, Go.Proofs.Try.prog.funcs[17]? = some fn ∧ cFunc Go.Proofs.Try.prog fn = some k17 := ⟨by kernel_rfl, Go.Proofs.Try.f17, Go.Proofs.Try.func17, by kernel_rfl⟩
theorem c18 : okFunc Go.Proofs.Try.prog 18 = true ∧ ∃ fn, Go.Proofs.Try.prog.funcs[18]? = some fn ∧ cFunc Go.Proofs.Try.prog fn = some k18 := ⟨by kernel_rfl, Go.Proofs.Try.f18, Go.Proofs.Try.func18, by kernel_rfl⟩
theorem c19 : okFunc Go.Proofs.Try.prog 19 = true ∧ ∃ fn, Go.Proofs.Try.prog.funcs[19]? = some fn ∧ cFunc Go.Proofs.Try.prog fn = some k19 := ⟨by kernel_rfl, Go.Proofs.Try.f19, Go.Proofs.Try.func19, by kernel_rfl⟩
theorem c20 : okFunc Go.Proofs.Try.prog 20 = true ∧ ∃ fn, Go.Proofs.Try.prog.funcs[20]? = some fn ∧ cFunc Go.Proofs.Try.prog fn = some k20 := ⟨by kernel_rfl, Go.Proofs.Try.f20, Go.Proofs.Try.func20, by kernel_rfl⟩
theorem c49 : okFunc Go.Proofs.Try.prog 49 = true ∧ ∃ fn, Go.Proofs.Try.prog.funcs[49]? = some fn ∧ cFunc Go.Proofs.Try.prog fn = some k49 := ⟨by kernel_rfl, Go.Proofs.Try.f49, Go.Proofs.Try.func49, by kernel_rfl⟩
theorem c50 : okFunc Go.Proofs.Try.prog 50 = true ∧ ∃ fn, Go.Proofs.Try.prog.funcs[50]? = some fn ∧ cFunc Go.Proofs.Try.prog fn = some k50 := ⟨by kernel_rfl, Go.Proofs.Try.f50, Go.Proofs.Try.func50, by kernel_rfl⟩
theorem c51 : okFunc Go.Proofs.Try.prog 51 = true ∧ ∃ fn, Go.Proofs.Try.prog.funcs[51]? = some fn ∧ cFunc Go.Proofs.Try.prog fn = some k51 := ⟨by kernel_rfl, Go.Proofs.Try.f51, Go.Proofs.Try.func51, by kernel_rfl⟩
theorem c52 : okFunc Go.Proofs.Try.prog 52 = true ∧ ∃ fn, Go.Proofs.Try.prog.funcs[52]? = some fn ∧ cFunc Go.Proofs.Try.prog fn = some k52 := ⟨by kernel_rfl, Go.Proofs.Try.f52, Go.Proofs.Try.func52, by kernel_rfl⟩
theorem c53 : okFunc Go.Proofs.Try.prog 53 = true ∧ ∃ fn, Go.Proofs.Try.prog.funcs[53]? = some fn ∧ cFunc Go.Proofs.Try.prog fn = some k53 := ⟨by kernel_rfl, Go.Proofs.Try.f53, Go.Proofs.Try.func53, by kernel_rfl⟩
theorem c54 : okFunc Go.Proofs.Try.prog 54 = true ∧ ∃ fn, Go.Proofs.Try.prog.funcs[54]? = some fn ∧ cFunc Go.Proofs.Try.prog fn = some k54 := ⟨by kernel_rfl, Go.Proofs.Try.f54, Go.Proofs.Try.func54, by kernel_rfl⟩
theorem c55 : okFunc Go.Proofs.Try.prog 55 = true ∧ ∃ fn, Go.Proofs.Try.prog.funcs[55]? = some fn ∧ cFunc Go.Proofs.Try.prog fn = some k55 := ⟨by kernel_rfl, Go.Proofs.Try.f55, Go.Proofs.Try.func55, by kernel_rfl⟩
theorem c56 : okFunc Go.Proofs.Try.prog 56 = true ∧ ∃ fn, Go.Proofs.Try.prog.funcs[56]? = some fn ∧ cFunc Go.Proofs.Try.prog fn = some k56 := ⟨by kernel_rfl, Go.Proofs.Try.f56, Go.Proofs.Try.func56, by kernel_rfl⟩
theorem c57 : okFunc Go.Proofs.Try.prog 57 = true ∧ ∃ fn, Go.Proofs.Try.prog.funcs[57]? = some fn ∧ cFunc Go.Proofs.Try.prog fn = some k57 := ⟨by kernel_rfl, Go.Proofs.Try.f57, Go.Proofs.Try.func57, by kernel_rfl⟩
theorem c58 : okFunc Go.Proofs.Try.prog 58 = true ∧ ∃ fn, Go.Proofs.Try.prog.funcs[58]? = some fn ∧ cFunc Go.Proofs.Try.prog fn = some k58 := ⟨by kernel_rfl, Go.Proofs.Try.f58, Go.Proofs.Try.func58, by kernel_rfl⟩
theorem c59 : okFunc Go.Proofs.Try.prog 59 = true ∧ ∃ fn, Go.Proofs.Try.prog.funcs[59]? = some fn ∧ cFunc Go.Proofs.Try.prog fn = some k59 := ⟨by kernel_rfl, Go.Proofs.Try.f59, Go.Proofs.Try.func59, by kernel_rfl⟩
theorem c60 : okFunc Go.Proofs.Try.prog 60 = true ∧ ∃ fn, Go.Proofs.Try.prog.funcs[60]? = some fn ∧ cFunc Go.Proofs.Try.prog fn = some k60 := ⟨by kernel_rfl, Go.Proofs.Try.f60, Go.Proofs.Try.func60, by kernel_rfl⟩
theorem c92 : okFunc Go.Proofs.Try.prog 92 = true ∧ ∃ fn, Go.Proofs.Try.prog.funcs[92]? = some fn ∧ cFunc Go.Proofs.Try.prog fn = some k92 := ⟨by kernel_rfl, Go.Proofs.Try.f92, Go.Proofs.Try.func92, by kernel_rfl⟩
theorem c97 : okFunc Go.Proofs.Try.prog 97 = true ∧ ∃ fn, Go.Proofs.Try.prog.funcs[97]? = some fn ∧ cFunc Go.Proofs.Try.prog fn = some k97 := ⟨by kernel_rfl, Go.Proofs.Try.f97, Go.Proofs.Try.func97, by kernel_rfl⟩
theorem c99 : okFunc Go.Proofs.Try.prog 99 = true ∧ ∃ fn, Go.Proofs.Try.prog.funcs[99]? = some fn ∧ cFunc Go.Proofs.Try.prog fn = some k99 := ⟨by kernel_rfl, Go.Proofs.Try.f99, Go.Proofs.Try.func99, by kernel_rfl⟩
theorem c100 : okFunc Go.Proofs.Try.prog 100 = true ∧ ∃ fn, Go.Proofs.Try.prog.funcs[100]? = some fn ∧ cFunc Go.Proofs.Try.prog fn = some k100 := ⟨by kernel_rfl, Go.Proofs.Try.f100, Go.Proofs.Try.func100, by kernel_rfl⟩
theorem c101 : okFunc Go.Proofs.Try.prog 101 = true ∧ ∃ fn, Go.Proofs.Try.prog.funcs[101]? = some fn ∧ cFunc Go.Proofs.Try.prog fn = some k101 := ⟨by kernel_rfl, Go.Proofs.Try.f101, Go.Proofs.Try.func101, by kernel_rfl⟩
theorem c102 : okFunc Go.Proofs.Try.prog 102 = true ∧ ∃ fn, Go.Proofs.Try.prog.funcs[102]? = some fn ∧ cFunc Go.Proofs.Try.prog fn = some k102 := ⟨by kernel_rfl, Go.Proofs.Try.f102, Go.Proofs.Try.func102, by kernel_rfl⟩
theorem c105 : okFunc Go.Proofs.Try.prog 105 = true ∧ ∃ fn, Go.Proofs.Try.prog.funcs[105]? = some fn ∧ cFunc Go.Proofs.Try.prog fn = some k105 := ⟨by kernel_rfl, Go.Proofs.Try.f105, Go.Proofs.Try.func105, by kernel_rfl⟩
theorem c106 : okFunc Go.Proofs.Try.prog 106 = true ∧ ∃ fn, Go.Proofs.Try.prog.funcs[106]? = some fn ∧ cFunc Go.Proofs.Try.prog fn = some k106 := ⟨by kernel_rfl, Go.Proofs.Try.f106, Go.Proofs.Try.func106, by kernel_rfl⟩
theorem c125 : okFunc Go.Proofs.Try.prog 125 = true ∧ ∃ fn, Go.Proofs.Try.prog.funcs[125]? = some fn ∧ cFunc Go.Proofs.Try.prog fn = some k125 := ⟨by kernel_rfl, Go.Proofs.Try.f125, Go.Proofs.Try.func125, by kernel_rfl⟩
theorem c126 : okFunc Go.Proofs.Try.prog 126 = true ∧ ∃ fn, Go.Proofs.Try.prog.funcs[126]? = some fn ∧ cFunc Go.Proofs.Try.prog fn = some k126 := ⟨by kernel_rfl, Go.Proofs.Try.f126, Go.Proofs.Try.func126, by kernel_rfl⟩
def F : FuncId → Option KFunc
  | 3 => some k3
  | 4 => some k4
  | 13 => some k13
  | 14 => some k14
  | 15 => some k15
  | 16 => some k16
  | 17 => some k17
  | 18 => some k18
  | 19 => some k19
  | 20 => some k20
  | 49 => some k49
  | 50 => some k50
  | 51 => some k51
  | 52 => some k52
  | 53 => some k53
  | 54 => some k54
  | 55 => some k55
  | 56 => some k56
  | 57 => some k57
  | 58 => some k58
  | 59 => some k59
  | 60 => some k60
  | 92 => some k92
  | 97 => some k97
  | 99 => some k99
  | 100 => some k100
  | 101 => some k101
  | 102 => some k102
  | 105 => some k105
  | 106 => some k106
  | 125 => some k125
  | 126 => some k126
  | _ => none
def M : TypeId → String → Option (FuncId × Recv)
  | _, _ => none
theorem F_ok : ∀ f k, F f = some k → okFunc Go.Proofs.Try.prog f = true ∧ ∃ fn, Go.Proofs.Try.prog.funcs[f]? = some fn ∧ cFunc Go.Proofs.Try.prog fn = some k := by
  intro f k h
  unfold F at h
  split at h
  · cases h; exact c3
  · cases h; exact c4
  · cases h; exact c13
  · cases h; exact c14
  · cases h; exact c15
  · cases h; exact c16
  · cases h; exact c17
  · cases h; exact c18
  · cases h; exact c19
  · cases h; exact c20
  · cases h; exact c49
  · cases h; exact c50
  · cases h; exact c51
  · cases h; exact c52
  · cases h; exact c53
  · cases h; exact c54
  · cases h; exact c55
  · cases h; exact c56
  · cases h; exact c57
  · cases h; exact c58
  · cases h; exact c59
  · cases h; exact c60
  · cases h; exact c92
  · cases h; exact c97
  · cases h; exact c99
  · cases h; exact c100
  · cases h; exact c101
  · cases h; exact c102
  · cases h; exact c105
  · cases h; exact c106
  · cases h; exact c125
  · cases h; exact c126
  · cases h
theorem M_ok : ∀ t n f r, M t n = some (f, r) → methOk Go.Proofs.Try.prog t n f r = true := by
  intro t n f r h
  unfold M at h
  split at h
  · cases h
end Go.Proofs.Ytlboioplemlneaa.K
