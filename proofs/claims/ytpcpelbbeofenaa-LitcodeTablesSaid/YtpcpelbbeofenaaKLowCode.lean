/- The functions in K's language, each held against the given translation by the kernel. Printed by a program of this work (seat.py). -/
import Derived.Test.YtpcpelbbeofenaaKSh
import Derived.Test.YtpcpelbbeofenaaProg
set_option maxRecDepth 100000
set_option linter.unusedVariables false
namespace Go.Proofs.Ytpcpelbbeofenaa.K
open Go Go.Proofs
def k4 : KFunc := ⟨80, (.seq (.reg [(.op (some 2) none (.mv (.c (.bool false))))]) (.seq (.seq (.reg [(.op (some 12) none (.call 23 [])), (.op (some 13) none (.un .not (.t 12)))])
  (.cond (.t 13) (.seq (.reg [(.op (some 2) none (.mv (.c (.bool false))))]) .ret) .skip)) (.seq (.seq (.reg [(.op (some 14) none (.mv (.t 0))), (.op (some 15) none (.lenL
  (.t 14))), (.op (some 16) none (.bin .gtr (.t 15) (.c (.int .i64 60))))]) (.cond (.t 16) (.seq (.reg [(.op (some 2) none (.mv (.c (.bool true))))]) .ret) .skip)) (.seq
  (.reg [(.op (some 3) none (.mv (.c (.string (bs []))))), (.op (some 4) none (.mv (.c (.bool true))))]) (.seq (.seq (.reg [(.op (some 17) none (.mv (.t 0))), (.op (some 18) none
  (.lenL (.t 17))), (.op (some 19) none (.mv (.c (.int .i64 0))))]) (.block 0 (.loop (.seq (.reg [(.op (some 20) none (.bin .lss (.t 19) (.t 18)))]) (.seq (.cond (.t 20) .skip
  (.exit 0)) (.seq (.block 1 (.seq (.reg [(.op (some 21) none (.iad 5 (.t 17) (.t 19))), (.op (some 22) none (.ldn 5 (.t 21))), (.op (some 6) none (.alloc 34 [(.int .i64 0),
  (.int .i64 0), (.int .i64 0), (.bool false), (.string (bs []))])), (.op none none (.stn 5 (.t 6) (.t 22)))]) (.seq (.seq (.reg [(.op (some 23) none (.fad 4 (.t 6))),
  (.op (some 24) none (.ld (.t 23))), (.op (some 25) none (.lenS (.t 24))), (.op (some 26) none (.bin .gtr (.t 25) (.c (.int .i64 700))))]) (.cond (.t 26) (.seq
  (.reg [(.op (some 2) none (.mv (.c (.bool true))))]) .ret) .skip)) (.seq (.seq (.reg [(.op (some 27) none (.ldn 5 (.t 6))), (.op (some 29) none (.ldn 5 (.t 6))),
  (.op (some 28) none (.call 24 [(.t 27)])), (.chk 29 none (.ldn 5 (.t 6))), (.op (some 30) none (.call 25 [(.t 29)])), (.op (some 31) none (.eqv (.s .bool) true (.t 28)
  (.t 30)))]) (.cond (.t 31) (.seq (.reg [(.op (some 2) none (.mv (.c (.bool false))))]) .ret) .skip)) (.seq (.seq (.reg [(.op (some 32) none (.ldn 5 (.t 6))), (.op (some 33) none
  (.call 25 [(.t 32)])), (.op (some 34) none (.un .not (.t 33)))]) (.cond (.t 34) (.reg [(.op (some 4) none (.mv (.c (.bool false))))]) .skip)) (.seq (.reg [(.op (some 35) none
  (.mv (.t 4)))]) (.cond (.t 35) (.reg [(.op (some 36) none (.mv (.t 3))), (.op (some 37) none (.ldn 5 (.t 6))), (.op (some 38) none (.call 26 [(.t 37)])), (.op (some 39) none
  (.bin .add (.t 36) (.t 38))), (.op (some 3) none (.mv (.t 39)))]) .skip))))))) (.reg [(.op (some 40) none (.bin .add (.t 19) (.c (.int .i64 1)))), (.op (some 19) none (.mv
  (.t 40)))]))))))) (.seq (.reg [(.op (some 42) none (.mv (.t 0))), (.op (some 43) none (.call 27 [(.t 42)])), (.op (some 41) none (.mv (.t 43))), (.op (some 44) none (.xt
  (.t 41) 0)), (.op (some 45) none (.xt (.t 41) 1)), (.op (some 7) none (.mv (.t 44))), (.op (some 8) none (.mv (.t 45)))]) (.seq (.seq (.reg [(.op (some 46) none (.mv (.t 4))),
  (.op (some 47) none (.un .not (.t 46)))]) (.cond (.t 47) (.seq (.reg [(.op (some 48) none (.mv (.t 7))), (.op (some 49) none (.bin .eql (.t 48) (.c (.string (bs []))))),
  (.op (some 50) none (.mv (.t 49))), (.op (some 51) (some (50, true)) (.mv (.t 8))), (.op (some 52) (some (50, true)) (.bin .eql (.t 51) (.c (.int .i64 3)))), (.op (some 53) none
  (.pick (.t 50) (.t 52) (.c (.bool false)))), (.op (some 2) none (.mv (.t 53)))]) .ret) .skip)) (.seq (.reg [(.op (some 55) none (.mv (.t 7))), (.op (some 56) none
  (.call 28 [(.t 55)])), (.op (some 54) none (.mv (.t 56))), (.op (some 57) none (.xt (.t 54) 0)), (.op (some 58) none (.xt (.t 54) 1)), (.op (some 59) none (.xt (.t 54) 2)),
  (.op (some 9) none (.mv (.t 57))), (.op (some 10) none (.mv (.t 58))), (.op (some 11) none (.mv (.t 59)))]) (.seq (.reg [(.op (some 60) none (.mv (.t 8))), (.op (some 61) none
  (.bin .eql (.t 60) (.c (.int .i64 0)))), (.op (some 62) none (.mv (.t 61))), (.op (some 63) (some (62, true)) (.mv (.t 7))), (.op (some 64) (some (62, true)) (.mv (.t 3))),
  (.op (some 65) (some (62, true)) (.bin .eql (.t 63) (.t 64))), (.op (some 66) none (.pick (.t 62) (.t 65) (.c (.bool false)))), (.op (some 67) none (.mv (.t 66))),
  (.op (some 68) (some (67, true)) (.mv (.t 10))), (.op (some 69) (some (67, true)) (.bin .eql (.t 68) (.c (.int .i64 0)))), (.op (some 70) none (.pick (.t 67) (.t 69) (.c
  (.bool false)))), (.op (some 71) none (.mv (.t 70))), (.op (some 72) (some (71, true)) (.mv (.t 11))), (.op (some 73) (some (71, true)) (.bin .eql (.t 72) (.c (.int .i64 0)))),
  (.op (some 74) none (.pick (.t 71) (.t 73) (.c (.bool false)))), (.op (some 75) none (.mv (.t 74))), (.op (some 76) (some (75, true)) (.mv (.t 9))), (.op (some 77) (some (75,
  true)) (.mv (.t 0))), (.op (some 78) (some (75, true)) (.call 29 [(.t 76), (.t 77)])), (.op (some 79) none (.pick (.t 75) (.t 78) (.c (.bool false)))), (.op (some 2) none (.mv
  (.t 79)))]) .ret))))))))), [(.t 2)]⟩
def k5 : KFunc := ⟨80, (.seq (.reg [(.op (some 2) none (.mv (.c (.bool false))))]) (.seq (.seq (.reg [(.op (some 12) none (.call 23 [])), (.op (some 13) none (.un .not (.t 12)))])
  (.cond (.t 13) (.seq (.reg [(.op (some 2) none (.mv (.c (.bool false))))]) .ret) .skip)) (.seq (.seq (.reg [(.op (some 14) none (.mv (.t 0))), (.op (some 15) none (.lenS
  (.t 14))), (.op (some 16) none (.bin .gtr (.t 15) (.c (.int .i64 300))))]) (.cond (.t 16) (.seq (.reg [(.op (some 2) none (.mv (.c (.bool true))))]) .ret) .skip)) (.seq
  (.reg [(.op (some 18) none (.mv (.t 0))), (.op (some 19) none (.call 28 [(.t 18)])), (.op (some 17) none (.mv (.t 19))), (.op (some 20) none (.xt (.t 17) 0)),
  (.op (some 21) none (.xt (.t 17) 1)), (.op (some 22) none (.xt (.t 17) 2)), (.op (some 3) none (.mv (.t 20))), (.op (some 4) none (.mv (.t 21))), (.op (some 5) none (.mv
  (.t 22)))]) (.seq (.reg [(.op (some 6) none (.mv (.c (.slice none 0 0))))]) (.seq (.reg [(.op (some 7) none (.mv (.c (.int .i64 0))))]) (.seq (.block 0 (.loop (.seq (.seq
  (.reg [(.op (some 23) none (.mv (.t 7))), (.op (some 24) none (.mv (.t 0))), (.op (some 25) none (.lenS (.t 24))), (.op (some 26) none (.bin .lss (.t 23) (.t 25)))]) (.cond
  (.t 26) .skip (.exit 0))) (.block 1 (.seq (.reg [(.op (some 28) none (.mv (.t 0))), (.op (some 29) none (.mv (.t 7))), (.op (some 30) none (.slS (.t 28) (some (.t 29)) none)),
  (.op (some 31) none (.call 30 [(.t 30)])), (.op (some 27) none (.mv (.t 31))), (.op (some 32) none (.xt (.t 27) 0)), (.op (some 33) none (.xt (.t 27) 1)), (.op (some 8) none
  (.alloc 34 [(.int .i64 0), (.int .i64 0), (.int .i64 0), (.bool false), (.string (bs []))])), (.op none none (.stn 5 (.t 8) (.t 32))), (.op (some 9) none (.mv (.t 33)))]) (.seq
  (.seq (.reg [(.op (some 34) none (.mv (.t 9))), (.op (some 35) none (.bin .eql (.t 34) (.c (.int .i64 0))))]) (.cond (.t 35) (.seq (.reg [(.op (some 36) none (.mv (.t 4))),
  (.op (some 37) none (.bin .eql (.t 36) (.c (.int .i64 3)))), (.op (some 38) none (.mv (.t 37))), (.op (some 39) (some (38, true)) (.mv (.t 5))), (.op (some 40) (some (38, true))
  (.mv (.t 7))), (.op (some 41) (some (38, true)) (.bin .eql (.t 39) (.t 40))), (.op (some 42) none (.pick (.t 38) (.t 41) (.c (.bool false)))), (.op (some 43) none (.mv
  (.t 42))), (.op (some 44) (some (43, true)) (.mv (.t 3))), (.op (some 45) (some (43, true)) (.lenL (.t 44))), (.op (some 46) (some (43, true)) (.bin .eql (.t 45) (.c
  (.int .i64 0)))), (.op (some 47) none (.pick (.t 43) (.t 46) (.c (.bool false)))), (.op (some 2) none (.mv (.t 47)))]) .ret) .skip)) (.reg [(.op (some 48) none (.mv (.t 6))),
  (.op (some 49) none (.ldn 5 (.t 8))), (.op (some 50) none (.bsl 34 1 [(.int .i64 0), (.int .i64 0), (.int .i64 0), (.bool false), (.string (bs []))] [(0, (5, (.t 49)))])),
  (.op (some 51) none (.app 34 5 48 (.t 48) (.t 50))), (.op (some 52) none (.mv (.t 7))), (.op (some 53) none (.mv (.t 9))), (.op (some 54) none (.bin .add (.t 52) (.t 53))),
  (.op (some 6) none (.mv (.t 51))), (.op (some 7) none (.mv (.t 54)))]))))))) (.seq (.reg [(.op (some 56) none (.mv (.t 3))), (.op (some 57) none (.call 27 [(.t 56)])),
  (.op (some 55) none (.mv (.t 57))), (.op (some 58) none (.xt (.t 55) 0)), (.op (some 59) none (.xt (.t 55) 1)), (.op (some 10) none (.mv (.t 58))), (.op (some 11) none (.mv
  (.t 59)))]) (.seq (.reg [(.op (some 60) none (.mv (.t 4))), (.op (some 61) none (.bin .eql (.t 60) (.c (.int .i64 0)))), (.op (some 62) none (.mv (.t 61))),
  (.op (some 63) (some (62, true)) (.mv (.t 5))), (.op (some 64) (some (62, true)) (.bin .eql (.t 63) (.c (.int .i64 0)))), (.op (some 65) none (.pick (.t 62) (.t 64) (.c
  (.bool false)))), (.op (some 66) none (.mv (.t 65))), (.op (some 67) (some (66, true)) (.mv (.t 3))), (.op (some 68) (some (66, true)) (.mv (.t 6))), (.op (some 69) (some (66,
  true)) (.call 29 [(.t 67), (.t 68)])), (.op (some 70) none (.pick (.t 66) (.t 69) (.c (.bool false)))), (.op (some 71) none (.mv (.t 70))), (.op (some 72) (some (71, true)) (.mv
  (.t 11))), (.op (some 73) (some (71, true)) (.bin .eql (.t 72) (.c (.int .i64 0)))), (.op (some 74) none (.pick (.t 71) (.t 73) (.c (.bool false)))), (.op (some 75) none (.mv
  (.t 74))), (.op (some 76) (some (75, true)) (.mv (.t 10))), (.op (some 77) (some (75, true)) (.mv (.t 0))), (.op (some 78) (some (75, true)) (.bin .eql (.t 76) (.t 77))),
  (.op (some 79) none (.pick (.t 75) (.t 78) (.c (.bool false)))), (.op (some 2) none (.mv (.t 79)))]) .ret))))))))), [(.t 2)]⟩
def k6 : KFunc := ⟨87, (.seq (.reg [(.op (some 6) none (.mv (.c (.bool false))))]) (.seq (.seq (.reg [(.op (some 13) none (.call 31 [])), (.op (some 14) none (.un .not (.t 13)))])
  (.cond (.t 14) (.seq (.reg [(.op (some 6) none (.mv (.c (.bool false))))]) .ret) .skip)) (.seq (.seq (.reg [(.op (some 15) none (.mv (.t 0))), (.op (some 16) none (.lenL
  (.t 15))), (.op (some 17) none (.bin .gtr (.t 16) (.c (.int .i64 256)))), (.op (some 18) none (.mv (.t 17))), (.op (some 19) (some (18, false)) (.mv (.t 1))),
  (.op (some 20) (some (18, false)) (.lenS (.t 19))), (.op (some 21) (some (18, false)) (.bin .gtr (.t 20) (.c (.int .i64 60)))), (.op (some 22) none (.pick (.t 18) (.c
  (.bool true)) (.t 21))), (.op (some 23) none (.mv (.t 22))), (.op (some 24) (some (23, false)) (.mv (.t 2))), (.op (some 25) (some (23, false)) (.bin .gtr (.t 24) (.c
  (.int .i64 300)))), (.op (some 26) (some (23, false)) (.mv (.t 25))), (.op (some 27) (some (26, true)) (.mv (.t 2))), (.op (some 28) (some (26, true)) (.bin .leq (.t 27) (.c
  (.int .i64 1048576)))), (.op (some 29) (some (23, false)) (.pick (.t 26) (.t 28) (.c (.bool false)))), (.op (some 30) none (.pick (.t 23) (.c (.bool true)) (.t 29))),
  (.op (some 31) none (.mv (.t 30))), (.op (some 32) (some (31, false)) (.mv (.t 0))), (.op (some 33) (some (31, false)) (.call 32 [(.t 32)])), (.op (some 34) (some (31, false))
  (.un .not (.t 33))), (.op (some 35) none (.pick (.t 31) (.c (.bool true)) (.t 34)))]) (.cond (.t 35) (.seq (.reg [(.op (some 6) none (.mv (.c (.bool true))))]) .ret) .skip))
  (.seq (.reg [(.op (some 37) none (.mv (.t 0))), (.op (some 38) none (.mv (.t 1))), (.op (some 39) none (.mv (.t 2))), (.op (some 40) none (.call 33 [(.t 37), (.t 38),
  (.t 39)])), (.op (some 36) none (.mv (.t 40))), (.op (some 41) none (.xt (.t 36) 0)), (.op (some 42) none (.xt (.t 36) 1)), (.op (some 7) none (.mv (.t 41))), (.op (some 8) none
  (.mv (.t 42)))]) (.seq (.seq (.reg [(.op (some 43) none (.mv (.t 2))), (.op (some 44) none (.bin .lss (.t 43) (.c (.int .i64 0)))), (.op (some 45) none (.mv (.t 44))),
  (.op (some 46) (some (45, false)) (.mv (.t 2))), (.op (some 47) (some (45, false)) (.bin .gtr (.t 46) (.c (.int .i64 1048576)))), (.op (some 48) none (.pick (.t 45) (.c
  (.bool true)) (.t 47)))]) (.cond (.t 48) (.seq (.reg [(.op (some 49) none (.mv (.t 8))), (.op (some 50) none (.un .not (.t 49))), (.op (some 51) none (.mv (.t 50))),
  (.op (some 52) (some (51, true)) (.mv (.t 7))), (.op (some 53) (some (51, true)) (.lenL (.t 52))), (.op (some 54) (some (51, true)) (.bin .eql (.t 53) (.c (.int .i64 0)))),
  (.op (some 55) none (.pick (.t 51) (.t 54) (.c (.bool false)))), (.op (some 6) none (.mv (.t 55)))]) .ret) .skip)) (.seq (.reg [(.op (some 57) none (.mv (.t 0))),
  (.op (some 58) none (.mv (.t 1))), (.op (some 59) none (.mv (.t 2))), (.op (some 60) none (.call 34 [(.t 57), (.t 58), (.t 59)])), (.op (some 56) none (.mv (.t 60))),
  (.op (some 61) none (.xt (.t 56) 0)), (.op (some 62) none (.xt (.t 56) 1)), (.op (some 9) none (.mv (.t 61))), (.op (some 10) none (.mv (.t 62)))]) (.seq (.seq
  (.reg [(.op (some 63) none (.mv (.t 8))), (.op (some 64) none (.mv (.t 10))), (.op (some 65) none (.eqv (.s .bool) true (.t 63) (.t 64))), (.op (some 66) none (.mv (.t 65))),
  (.op (some 67) (some (66, false)) (.mv (.t 7))), (.op (some 68) (some (66, false)) (.b2s 5 (.t 67))), (.op (some 69) (some (66, false)) (.mv (.t 9))), (.op (some 70) (some (66,
  false)) (.b2s 5 (.t 69))), (.op (some 71) (some (66, false)) (.bin .neq (.t 68) (.t 70))), (.op (some 72) none (.pick (.t 66) (.c (.bool true)) (.t 71)))]) (.cond (.t 72) (.seq
  (.reg [(.op (some 6) none (.mv (.c (.bool false))))]) .ret) .skip)) (.seq (.seq (.reg [(.op (some 73) none (.mv (.t 8))), (.op (some 74) none (.un .not (.t 73)))]) (.cond
  (.t 74) (.seq (.reg [(.op (some 6) none (.mv (.c (.bool true))))]) .ret) .skip)) (.seq (.reg [(.op (some 76) none (.mv (.t 0))), (.op (some 77) none (.mv (.t 7))),
  (.op (some 78) none (.call 35 [(.t 76), (.t 77)])), (.op (some 75) none (.mv (.t 78))), (.op (some 79) none (.xt (.t 75) 0)), (.op (some 80) none (.xt (.t 75) 1)),
  (.op (some 11) none (.mv (.t 79))), (.op (some 12) none (.mv (.t 80)))]) (.seq (.reg [(.op (some 81) none (.mv (.t 12))), (.op (some 82) none (.mv (.t 81))),
  (.op (some 83) (some (82, true)) (.mv (.t 11))), (.op (some 84) (some (82, true)) (.mv (.t 1))), (.op (some 85) (some (82, true)) (.bin .eql (.t 83) (.t 84))),
  (.op (some 86) none (.pick (.t 82) (.t 85) (.c (.bool false)))), (.op (some 6) none (.mv (.t 86)))]) .ret)))))))))), [(.t 6)]⟩
def k7 : KFunc := ⟨101, (.seq (.reg [(.op (some 4) none (.mv (.c (.bool false))))]) (.seq (.seq (.reg [(.op (some 15) none (.call 31 [])), (.op (some 16) none (.un .not
  (.t 15)))]) (.cond (.t 16) (.seq (.reg [(.op (some 4) none (.mv (.c (.bool false))))]) .ret) .skip)) (.seq (.seq (.reg [(.op (some 17) none (.mv (.t 0))), (.op (some 18) none
  (.lenL (.t 17))), (.op (some 19) none (.bin .gtr (.t 18) (.c (.int .i64 256)))), (.op (some 20) none (.mv (.t 19))), (.op (some 21) (some (20, false)) (.mv (.t 1))),
  (.op (some 22) (some (20, false)) (.lenL (.t 21))), (.op (some 23) (some (20, false)) (.bin .gtr (.t 22) (.c (.int .i64 100)))), (.op (some 24) none (.pick (.t 20) (.c
  (.bool true)) (.t 23)))]) (.cond (.t 24) (.seq (.reg [(.op (some 4) none (.mv (.c (.bool true))))]) .ret) .skip)) (.seq (.reg [(.op (some 26) none (.mv (.t 0))),
  (.op (some 27) none (.mv (.t 1))), (.op (some 28) none (.call 35 [(.t 26), (.t 27)])), (.op (some 25) none (.mv (.t 28))), (.op (some 29) none (.xt (.t 25) 0)),
  (.op (some 30) none (.xt (.t 25) 1)), (.op (some 5) none (.mv (.t 29))), (.op (some 6) none (.mv (.t 30)))]) (.seq (.seq (.reg [(.op (some 31) none (.mv (.t 0))),
  (.op (some 32) none (.call 32 [(.t 31)])), (.op (some 33) none (.un .not (.t 32)))]) (.cond (.t 33) (.seq (.reg [(.op (some 35) none (.mv (.t 0))), (.op (some 36) none
  (.call 36 [(.t 35)])), (.op (some 34) none (.mv (.t 36))), (.op (some 37) none (.xt (.t 34) 0)), (.op (some 38) none (.xt (.t 34) 1)), (.op (some 7) none (.mv (.t 37))),
  (.op (some 8) none (.mv (.t 38)))]) (.seq (.reg [(.op (some 40) none (.mv (.t 0))), (.op (some 41) none (.mv (.t 1))), (.op (some 42) none (.b2s 5 (.t 41))), (.op (some 43) none
  (.call 33 [(.t 40), (.t 42), (.c (.int .i64 1))])), (.op (some 39) none (.mv (.t 43))), (.op (some 44) none (.xt (.t 39) 0)), (.op (some 45) none (.xt (.t 39) 1)),
  (.op (some 9) none (.mv (.t 44))), (.op (some 10) none (.mv (.t 45)))]) (.seq (.reg [(.op (some 46) none (.mv (.t 6))), (.op (some 47) none (.un .not (.t 46))),
  (.op (some 48) none (.mv (.t 47))), (.op (some 49) (some (48, true)) (.mv (.t 5))), (.op (some 50) (some (48, true)) (.bin .eql (.t 49) (.c (.string (bs []))))),
  (.op (some 51) none (.pick (.t 48) (.t 50) (.c (.bool false)))), (.op (some 52) none (.mv (.t 51))), (.op (some 53) (some (52, true)) (.mv (.t 8))), (.op (some 54) (some (52,
  true)) (.un .not (.t 53))), (.op (some 55) none (.pick (.t 52) (.t 54) (.c (.bool false)))), (.op (some 56) none (.mv (.t 55))), (.op (some 57) (some (56, true)) (.mv (.t 7))),
  (.op (some 58) (some (56, true)) (.bin .eql (.t 57) (.c (.string (bs []))))), (.op (some 59) none (.pick (.t 56) (.t 58) (.c (.bool false)))), (.op (some 60) none (.mv
  (.t 59))), (.op (some 61) (some (60, true)) (.mv (.t 10))), (.op (some 62) (some (60, true)) (.un .not (.t 61))), (.op (some 63) none (.pick (.t 60) (.t 62) (.c
  (.bool false)))), (.op (some 64) none (.mv (.t 63))), (.op (some 65) (some (64, true)) (.mv (.t 9))), (.op (some 66) (some (64, true)) (.lenL (.t 65))),
  (.op (some 67) (some (64, true)) (.bin .eql (.t 66) (.c (.int .i64 0)))), (.op (some 68) none (.pick (.t 64) (.t 67) (.c (.bool false)))), (.op (some 4) none (.mv
  (.t 68)))]) .ret))) .skip)) (.seq (.reg [(.op (some 70) none (.mv (.t 0))), (.op (some 71) none (.mv (.t 1))), (.op (some 72) none (.call 37 [(.t 70), (.t 71)])),
  (.op (some 69) none (.mv (.t 72))), (.op (some 73) none (.xt (.t 69) 0)), (.op (some 74) none (.xt (.t 69) 1)), (.op (some 11) none (.mv (.t 73))), (.op (some 12) none (.mv
  (.t 74)))]) (.seq (.seq (.reg [(.op (some 75) none (.mv (.t 6))), (.op (some 76) none (.mv (.t 12))), (.op (some 77) none (.eqv (.s .bool) true (.t 75) (.t 76))),
  (.op (some 78) none (.mv (.t 77))), (.op (some 79) (some (78, false)) (.mv (.t 5))), (.op (some 80) (some (78, false)) (.mv (.t 11))), (.op (some 81) (some (78, false))
  (.bin .neq (.t 79) (.t 80))), (.op (some 82) none (.pick (.t 78) (.c (.bool true)) (.t 81)))]) (.cond (.t 82) (.seq (.reg [(.op (some 4) none (.mv (.c
  (.bool false))))]) .ret) .skip)) (.seq (.seq (.reg [(.op (some 83) none (.mv (.t 6))), (.op (some 84) none (.un .not (.t 83)))]) (.cond (.t 84) (.seq (.reg [(.op (some 4) none
  (.mv (.c (.bool true))))]) .ret) .skip)) (.seq (.reg [(.op (some 86) none (.mv (.t 0))), (.op (some 87) none (.mv (.t 5))), (.op (some 88) none (.mv (.t 1))),
  (.op (some 89) none (.lenL (.t 88))), (.op (some 90) none (.call 33 [(.t 86), (.t 87), (.t 89)])), (.op (some 85) none (.mv (.t 90))), (.op (some 91) none (.xt (.t 85) 0)),
  (.op (some 92) none (.xt (.t 85) 1)), (.op (some 13) none (.mv (.t 91))), (.op (some 14) none (.mv (.t 92)))]) (.seq (.reg [(.op (some 93) none (.mv (.t 14))),
  (.op (some 94) none (.mv (.t 93))), (.op (some 95) (some (94, true)) (.mv (.t 13))), (.op (some 96) (some (94, true)) (.b2s 5 (.t 95))), (.op (some 97) (some (94, true)) (.mv
  (.t 1))), (.op (some 98) (some (94, true)) (.b2s 5 (.t 97))), (.op (some 99) (some (94, true)) (.bin .eql (.t 96) (.t 98))), (.op (some 100) none (.pick (.t 94) (.t 99) (.c
  (.bool false)))), (.op (some 4) none (.mv (.t 100)))]) .ret)))))))))), [(.t 4)]⟩
def k8 : KFunc := ⟨95, (.seq (.reg [(.op (some 4) none (.mv (.c (.bool false))))]) (.seq (.seq (.reg [(.op (some 15) none (.call 31 [])), (.op (some 16) none (.un .not (.t 15)))])
  (.cond (.t 16) (.seq (.reg [(.op (some 4) none (.mv (.c (.bool false))))]) .ret) .skip)) (.seq (.seq (.reg [(.op (some 17) none (.mv (.t 0))), (.op (some 18) none (.lenL
  (.t 17))), (.op (some 19) none (.bin .gtr (.t 18) (.c (.int .i64 256)))), (.op (some 20) none (.mv (.t 19))), (.op (some 21) (some (20, false)) (.mv (.t 1))),
  (.op (some 22) (some (20, false)) (.lenS (.t 21))), (.op (some 23) (some (20, false)) (.bin .gtr (.t 22) (.c (.int .i64 200)))), (.op (some 24) none (.pick (.t 20) (.c
  (.bool true)) (.t 23)))]) (.cond (.t 24) (.seq (.reg [(.op (some 4) none (.mv (.c (.bool true))))]) .ret) .skip)) (.seq (.reg [(.op (some 26) none (.mv (.t 0))),
  (.op (some 27) none (.call 36 [(.t 26)])), (.op (some 25) none (.mv (.t 27))), (.op (some 28) none (.xt (.t 25) 0)), (.op (some 29) none (.xt (.t 25) 1)), (.op (some 5) none
  (.mv (.t 28))), (.op (some 6) none (.mv (.t 29)))]) (.seq (.seq (.reg [(.op (some 30) none (.mv (.t 6))), (.op (some 31) none (.mv (.t 0))), (.op (some 32) none
  (.call 32 [(.t 31)])), (.op (some 33) none (.eqv (.s .bool) true (.t 30) (.t 32)))]) (.cond (.t 33) (.seq (.reg [(.op (some 4) none (.mv (.c (.bool false))))]) .ret) .skip))
  (.seq (.seq (.reg [(.op (some 34) none (.mv (.t 6)))]) (.cond (.t 34) (.seq (.reg [(.op (some 35) none (.mv (.t 5))), (.op (some 36) none (.bin .add (.t 35) (.c
  (.string (bs [120]))))), (.op (some 37) none (.call 38 [(.t 36)])), (.op (some 7) none (.mv (.t 37)))]) (.seq (.reg [(.op (some 39) none (.mv (.t 7))), (.op (some 40) none
  (.call 39 [(.t 39)])), (.op (some 38) none (.mv (.t 40))), (.op (some 41) none (.xt (.t 38) 0)), (.op (some 42) none (.xt (.t 38) 1)), (.op (some 8) none (.mv (.t 41))),
  (.op (some 9) none (.mv (.t 42)))]) (.seq (.reg [(.op (some 43) none (.mv (.t 5))), (.op (some 44) none (.mv (.t 0))), (.op (some 45) none (.call 40 [(.t 44)])),
  (.op (some 46) none (.bin .neq (.t 43) (.t 45))), (.op (some 47) none (.mv (.t 46))), (.op (some 48) (some (47, false)) (.mv (.t 9))), (.op (some 49) (some (47, false))
  (.un .not (.t 48))), (.op (some 50) none (.pick (.t 47) (.c (.bool true)) (.t 49))), (.op (some 51) none (.mv (.t 50))), (.op (some 52) (some (51, false)) (.mv (.t 8))),
  (.op (some 53) (some (51, false)) (.mv (.t 0))), (.op (some 54) (some (51, false)) (.call 42 [(.t 53)])), (.op (some 55) (some (51, false)) (.call 41 [(.t 52), (.t 54)])),
  (.op (some 56) (some (51, false)) (.un .not (.t 55))), (.op (some 57) none (.pick (.t 51) (.c (.bool true)) (.t 56))), (.op (some 58) none (.mv (.t 57))),
  (.op (some 59) (some (58, false)) (.mv (.t 7))), (.op (some 60) (some (58, false)) (.call 43 [(.t 59)])), (.op (some 61) (some (58, false)) (.bin .neq (.t 60) (.c
  (.string (bs [120]))))), (.op (some 62) none (.pick (.t 58) (.c (.bool true)) (.t 61)))]) (.cond (.t 62) (.seq (.reg [(.op (some 4) none (.mv (.c
  (.bool false))))]) .ret) .skip)))) .skip)) (.seq (.reg [(.op (some 63) none (.mv (.t 1))), (.op (some 64) none (.call 38 [(.t 63)])), (.op (some 10) none (.mv (.t 64)))]) (.seq
  (.reg [(.op (some 66) none (.mv (.t 10))), (.op (some 67) none (.call 39 [(.t 66)])), (.op (some 65) none (.mv (.t 67))), (.op (some 68) none (.xt (.t 65) 0)),
  (.op (some 69) none (.xt (.t 65) 1)), (.op (some 11) none (.mv (.t 68))), (.op (some 12) none (.mv (.t 69)))]) (.seq (.reg [(.op (some 71) none (.mv (.t 1))),
  (.op (some 72) none (.call 44 [(.t 71)])), (.op (some 70) none (.mv (.t 72))), (.op (some 73) none (.xt (.t 70) 0)), (.op (some 74) none (.xt (.t 70) 1)), (.op (some 13) none
  (.mv (.t 73))), (.op (some 14) none (.mv (.t 74)))]) (.seq (.seq (.reg [(.op (some 75) none (.mv (.t 12))), (.op (some 76) none (.mv (.t 14))), (.op (some 77) none (.bin .gtr
  (.t 76) (.c (.int .i64 0)))), (.op (some 78) none (.eqv (.s .bool) true (.t 75) (.t 77))), (.op (some 79) none (.mv (.t 78))), (.op (some 80) (some (79, false)) (.mv (.t 11))),
  (.op (some 81) (some (79, false)) (.mv (.t 13))), (.op (some 82) (some (79, false)) (.call 41 [(.t 80), (.t 81)])), (.op (some 83) (some (79, false)) (.un .not (.t 82))),
  (.op (some 84) none (.pick (.t 79) (.c (.bool true)) (.t 83)))]) (.cond (.t 84) (.seq (.reg [(.op (some 4) none (.mv (.c (.bool false))))]) .ret) .skip)) (.seq
  (.reg [(.op (some 85) none (.mv (.t 12))), (.op (some 86) none (.un .not (.t 85))), (.op (some 87) none (.mv (.t 86))), (.op (some 88) (some (87, false)) (.mv (.t 10))),
  (.op (some 90) (some (87, false)) (.mv (.t 1))), (.op (some 91) (some (87, false)) (.mv (.t 14))), (.op (some 92) (some (87, false)) (.slS (.t 90) (some (.t 91)) none)),
  (.op (some 89) (some (87, false)) (.call 43 [(.t 88)])), (.op (some 93) (some (87, false)) (.bin .eql (.t 89) (.t 92))), (.op (some 94) none (.pick (.t 87) (.c (.bool true))
  (.t 93))), (.op (some 4) none (.mv (.t 94)))]) .ret))))))))))), [(.t 4)]⟩
def k13 : KFunc := ⟨36, (.seq (.reg [(.op (some 2) none (.mv (.c (.bool false))))]) (.seq (.seq (.reg [(.op (some 6) none (.call 66 [])), (.op (some 7) none (.un .not (.t 6)))])
  (.cond (.t 7) (.seq (.reg [(.op (some 2) none (.mv (.c (.bool false))))]) .ret) .skip)) (.seq (.seq (.reg [(.op (some 8) none (.mv (.t 0))), (.op (some 9) none (.lenL (.t 8))),
  (.op (some 10) none (.bin .gtr (.t 9) (.c (.int .i64 300))))]) (.cond (.t 10) (.seq (.reg [(.op (some 2) none (.mv (.c (.bool true))))]) .ret) .skip)) (.seq
  (.reg [(.op (some 11) none (.mv (.t 0))), (.op (some 12) none (.call 32 [(.t 11)])), (.op (some 3) none (.mv (.t 12)))]) (.seq (.reg [(.op (some 14) none (.mv (.t 0))),
  (.op (some 15) none (.call 67 [(.t 14)])), (.op (some 13) none (.mv (.t 15))), (.op (some 16) none (.xt (.t 13) 0)), (.op (some 17) none (.xt (.t 13) 1)), (.op (some 4) none
  (.mv (.t 16))), (.op (some 5) none (.mv (.t 17)))]) (.seq (.seq (.reg [(.op (some 18) none (.mv (.t 0))), (.op (some 19) none (.call 68 [(.t 18)])), (.op (some 20) none (.mv
  (.t 3))), (.op (some 21) none (.eqv (.s .bool) true (.t 19) (.t 20))), (.op (some 22) none (.mv (.t 21))), (.op (some 23) (some (22, false)) (.mv (.t 5))),
  (.op (some 24) (some (22, false)) (.mv (.t 3))), (.op (some 25) (some (22, false)) (.eqv (.s .bool) true (.t 23) (.t 24))), (.op (some 26) none (.pick (.t 22) (.c (.bool true))
  (.t 25)))]) (.cond (.t 26) (.seq (.reg [(.op (some 2) none (.mv (.c (.bool false))))]) .ret) .skip)) (.seq (.seq (.reg [(.op (some 27) none (.mv (.t 3))), (.op (some 28) none
  (.un .not (.t 27)))]) (.cond (.t 28) (.seq (.reg [(.op (some 29) none (.mv (.t 4))), (.op (some 30) none (.lenL (.t 29))), (.op (some 31) none (.bin .eql (.t 30) (.c
  (.int .i64 0)))), (.op (some 2) none (.mv (.t 31)))]) .ret) .skip)) (.seq (.reg [(.op (some 32) none (.mv (.t 4))), (.op (some 33) none (.mv (.t 0))), (.op (some 34) none
  (.call 70 [(.t 33)])), (.op (some 35) none (.call 69 [(.t 32), (.t 34)])), (.op (some 2) none (.mv (.t 35)))]) .ret)))))))), [(.t 2)]⟩
def k14 : KFunc := ⟨81, (.seq (.reg [(.op (some 2) none (.mv (.c (.bool false))))]) (.seq (.seq (.reg [(.op (some 9) none (.call 66 [])), (.op (some 10) none (.un .not (.t 9)))])
  (.cond (.t 10) (.seq (.reg [(.op (some 2) none (.mv (.c (.bool false))))]) .ret) .skip)) (.seq (.reg [(.op (some 12) none (.mv (.t 0))), (.op (some 13) none
  (.call 67 [(.t 12)])), (.op (some 11) none (.mv (.t 13))), (.op (some 14) none (.xt (.t 11) 0)), (.op (some 15) none (.xt (.t 11) 1)), (.op (some 3) none (.mv (.t 14))),
  (.op (some 4) none (.mv (.t 15)))]) (.seq (.seq (.reg [(.op (some 16) none (.mv (.t 4))), (.op (some 17) none (.un .not (.t 16)))]) (.cond (.t 17) (.seq
  (.reg [(.op (some 2) none (.mv (.c (.bool true))))]) .ret) .skip)) (.seq (.seq (.reg [(.op (some 18) none (.mv (.t 0))), (.op (some 19) none (.lenL (.t 18))),
  (.op (some 20) none (.mv (.c (.int .i64 0))))]) (.block 0 (.loop (.seq (.reg [(.op (some 21) none (.bin .lss (.t 20) (.t 19)))]) (.seq (.cond (.t 21) .skip (.exit 0)) (.seq
  (.block 1 (.seq (.reg [(.op (some 22) none (.mv (.t 20))), (.op (some 23) none (.iad 1 (.t 18) (.t 20))), (.op (some 24) none (.ld (.t 23))), (.op (some 5) none (.mv (.t 22))),
  (.op (some 6) none (.mv (.t 24)))]) (.seq (.seq (.reg [(.op (some 25) none (.mv (.t 0))), (.op (some 26) none (.lenL (.t 25))), (.op (some 27) none (.mv (.c (.int .i64 0))))])
  (.block 2 (.loop (.seq (.reg [(.op (some 28) none (.bin .lss (.t 27) (.t 26)))]) (.seq (.cond (.t 28) .skip (.exit 2)) (.seq (.block 3 (.seq (.reg [(.op (some 29) none (.mv
  (.t 27))), (.op (some 30) none (.iad 1 (.t 25) (.t 27))), (.op (some 31) none (.ld (.t 30))), (.op (some 7) none (.mv (.t 29))), (.op (some 8) none (.mv (.t 31)))]) (.seq (.seq
  (.reg [(.op (some 32) none (.mv (.t 6))), (.op (some 33) none (.bin .eql (.t 32) (.c (.int .i64 0)))), (.op (some 34) none (.mv (.t 33))), (.op (some 35) (some (34, false)) (.mv
  (.t 8))), (.op (some 36) (some (34, false)) (.bin .eql (.t 35) (.c (.int .i64 0)))), (.op (some 37) none (.pick (.t 34) (.c (.bool true)) (.t 36))), (.op (some 38) none (.mv
  (.t 37))), (.op (some 39) (some (38, false)) (.mv (.t 6))), (.op (some 40) (some (38, false)) (.mv (.t 8))), (.op (some 41) (some (38, false)) (.bin .gtr (.t 39) (.t 40))),
  (.op (some 42) none (.pick (.t 38) (.c (.bool true)) (.t 41))), (.op (some 43) none (.mv (.t 42))), (.op (some 44) (some (43, false)) (.mv (.t 5))), (.op (some 45) (some (43,
  false)) (.mv (.t 7))), (.op (some 46) (some (43, false)) (.bin .eql (.t 44) (.t 45))), (.op (some 47) none (.pick (.t 43) (.c (.bool true)) (.t 46)))]) (.cond (.t 47)
  (.exit 3) .skip)) (.seq (.reg [(.op (some 48) none (.mv (.t 3))), (.op (some 49) none (.mv (.t 7))), (.op (some 50) none (.iad 1 (.t 48) (.t 49))), (.op (some 51) none (.ld
  (.t 50))), (.op (some 52) none (.mv (.t 8))), (.op (some 53) none (.mv (.t 6))), (.op (some 54) none (.bin .sub (.t 52) (.t 53))), (.op (some 55) none (.bin .shr (.t 51)
  (.t 54))), (.op (some 56) none (.mv (.t 3))), (.op (some 57) none (.mv (.t 5))), (.op (some 58) none (.iad 1 (.t 56) (.t 57))), (.op (some 59) none (.ld (.t 58))),
  (.op (some 60) none (.bin .eql (.t 55) (.t 59)))]) (.cond (.t 60) (.seq (.reg [(.op (some 2) none (.mv (.c (.bool false))))]) .ret) .skip))))) (.reg [(.op (some 61) none
  (.bin .add (.t 27) (.c (.int .i64 1)))), (.op (some 27) none (.mv (.t 61)))]))))))) (.seq (.reg [(.op (some 62) none (.mv (.t 6))), (.op (some 63) none (.bin .gtr (.t 62) (.c
  (.int .i64 0)))), (.op (some 64) none (.mv (.t 63))), (.op (some 65) (some (64, true)) (.mv (.t 3))), (.op (some 66) (some (64, true)) (.mv (.t 5))), (.op (some 67) (some (64,
  true)) (.iad 1 (.t 65) (.t 66))), (.op (some 68) (some (64, true)) (.ld (.t 67))), (.op (some 69) (some (64, true)) (.bin .lss (.t 68) (.c (.int .i64 0)))),
  (.op (some 70) (some (64, true)) (.mv (.t 69))), (.op (some 71) (some (70, false)) (.mv (.t 3))), (.op (some 72) (some (70, false)) (.mv (.t 5))), (.op (some 73) (some (70,
  false)) (.iad 1 (.t 71) (.t 72))), (.op (some 74) (some (70, false)) (.ld (.t 73))), (.op (some 75) (some (70, false)) (.mv (.t 6))), (.op (some 76) (some (70, false))
  (.bin .shl (.c (.int .i64 1)) (.t 75))), (.op (some 77) (some (70, false)) (.bin .geq (.t 74) (.t 76))), (.op (some 78) (some (64, true)) (.pick (.t 70) (.c (.bool true))
  (.t 77))), (.op (some 79) none (.pick (.t 64) (.t 78) (.c (.bool false))))]) (.cond (.t 79) (.seq (.reg [(.op (some 2) none (.mv (.c (.bool false))))]) .ret) .skip)))))
  (.reg [(.op (some 80) none (.bin .add (.t 20) (.c (.int .i64 1)))), (.op (some 20) none (.mv (.t 80)))]))))))) (.seq (.reg [(.op (some 2) none (.mv (.c
  (.bool true))))]) .ret)))))), [(.t 2)]⟩
def k15 : KFunc := ⟨60, (.seq (.reg [(.op (some 4) none (.mv (.c (.bool false))))]) (.seq (.seq (.reg [(.op (some 9) none (.call 66 [])), (.op (some 10) none (.un .not (.t 9)))])
  (.cond (.t 10) (.seq (.reg [(.op (some 4) none (.mv (.c (.bool false))))]) .ret) .skip)) (.seq (.seq (.reg [(.op (some 11) none (.mv (.t 0))), (.op (some 12) none (.lenL
  (.t 11))), (.op (some 13) none (.bin .gtr (.t 12) (.c (.int .i64 260)))), (.op (some 14) none (.mv (.t 13))), (.op (some 15) (some (14, false)) (.mv (.t 1))),
  (.op (some 16) (some (14, false)) (.lenL (.t 15))), (.op (some 17) (some (14, false)) (.bin .gtr (.t 16) (.c (.int .i64 260)))), (.op (some 18) none (.pick (.t 14) (.c
  (.bool true)) (.t 17)))]) (.cond (.t 18) (.seq (.reg [(.op (some 4) none (.mv (.c (.bool true))))]) .ret) .skip)) (.seq (.reg [(.op (some 20) none (.mv (.t 0))),
  (.op (some 21) none (.mv (.t 1))), (.op (some 22) none (.call 71 [(.t 20), (.t 21)])), (.op (some 19) none (.mv (.t 22))), (.op (some 23) none (.xt (.t 19) 0)),
  (.op (some 24) none (.xt (.t 19) 1)), (.op (some 5) none (.mv (.t 23))), (.op (some 6) none (.mv (.t 24)))]) (.seq (.seq (.reg [(.op (some 25) none (.mv (.t 0))),
  (.op (some 26) none (.call 72 [(.t 25)])), (.op (some 27) none (.un .not (.t 26))), (.op (some 28) none (.mv (.t 27))), (.op (some 29) (some (28, false)) (.mv (.t 1))),
  (.op (some 30) (some (28, false)) (.lenL (.t 29))), (.op (some 31) (some (28, false)) (.mv (.t 0))), (.op (some 32) (some (28, false)) (.lenL (.t 31))),
  (.op (some 33) (some (28, false)) (.bin .lss (.t 30) (.t 32))), (.op (some 34) none (.pick (.t 28) (.c (.bool true)) (.t 33))), (.op (some 35) none (.mv (.t 34))),
  (.op (some 36) (some (35, false)) (.mv (.t 1))), (.op (some 37) (some (35, false)) (.call 73 [(.t 36)])), (.op (some 38) (some (35, false)) (.un .not (.t 37))),
  (.op (some 39) none (.pick (.t 35) (.c (.bool true)) (.t 38)))]) (.cond (.t 39) (.seq (.reg [(.op (some 40) none (.mv (.t 6))), (.op (some 41) none (.un .not (.t 40))),
  (.op (some 42) none (.mv (.t 41))), (.op (some 43) (some (42, true)) (.mv (.t 5))), (.op (some 44) (some (42, true)) (.bin .eql (.t 43) (.c (.int .i64 0)))), (.op (some 45) none
  (.pick (.t 42) (.t 44) (.c (.bool false)))), (.op (some 4) none (.mv (.t 45)))]) .ret) .skip)) (.seq (.reg [(.op (some 47) none (.mv (.t 0))), (.op (some 48) none (.mv (.t 1))),
  (.op (some 49) none (.call 74 [(.t 47), (.t 48)])), (.op (some 46) none (.mv (.t 49))), (.op (some 50) none (.xt (.t 46) 0)), (.op (some 51) none (.xt (.t 46) 1)),
  (.op (some 7) none (.mv (.t 50))), (.op (some 8) none (.mv (.t 51)))]) (.seq (.reg [(.op (some 52) none (.mv (.t 6))), (.op (some 53) none (.mv (.t 8))), (.op (some 54) none
  (.eqv (.s .bool) false (.t 52) (.t 53))), (.op (some 55) none (.mv (.t 54))), (.op (some 56) (some (55, true)) (.mv (.t 5))), (.op (some 57) (some (55, true)) (.mv (.t 7))),
  (.op (some 58) (some (55, true)) (.bin .eql (.t 56) (.t 57))), (.op (some 59) none (.pick (.t 55) (.t 58) (.c (.bool false)))), (.op (some 4) none (.mv (.t 59)))]) .ret))))))),
  [(.t 4)]⟩
def k18 : KFunc := ⟨51, (.seq (.reg [(.op (some 4) none (.mv (.c (.bool false))))]) (.seq (.seq (.reg [(.op (some 10) none (.call 80 [])), (.op (some 11) none (.un .not
  (.t 10)))]) (.cond (.t 11) (.seq (.reg [(.op (some 4) none (.mv (.c (.bool false))))]) .ret) .skip)) (.seq (.seq (.reg [(.op (some 12) none (.mv (.t 0))), (.op (some 13) none
  (.lenS (.t 12))), (.op (some 14) none (.bin .gtr (.t 13) (.c (.int .i64 200)))), (.op (some 15) none (.mv (.t 14))), (.op (some 16) (some (15, false)) (.mv (.t 0))),
  (.op (some 17) (some (15, false)) (.lenS (.t 16))), (.op (some 18) (some (15, false)) (.bin .eql (.t 17) (.c (.int .i64 0)))), (.op (some 19) none (.pick (.t 15) (.c
  (.bool true)) (.t 18)))]) (.cond (.t 19) (.seq (.reg [(.op (some 4) none (.mv (.c (.bool true))))]) .ret) .skip)) (.seq (.reg [(.op (some 20) none (.mv (.t 0))),
  (.op (some 21) none (.call 81 [(.t 20)])), (.op (some 5) none (.mv (.t 21)))]) (.seq (.reg [(.op (some 23) none (.mv (.t 5))), (.op (some 24) none (.call 38 [(.t 23)])),
  (.op (some 25) none (.mv (.t 0))), (.op (some 26) none (.lenS (.t 25))), (.op (some 27) none (.bin .sub (.t 26) (.c (.int .i64 1)))), (.op (some 28) none (.call 82 [(.t 24),
  (.t 27)])), (.op (some 22) none (.mv (.t 28))), (.op (some 29) none (.xt (.t 22) 0)), (.op (some 30) none (.xt (.t 22) 1)), (.op (some 6) none (.mv (.t 29))), (.op (some 7) none
  (.mv (.t 30)))]) (.seq (.reg [(.op (some 32) none (.mv (.t 5))), (.op (some 33) none (.mv (.t 1))), (.op (some 34) none (.cvt .i64 (.t 33))), (.op (some 35) none (.mv (.t 5))),
  (.op (some 36) none (.lenS (.t 35))), (.op (some 37) none (.bin .rem (.t 34) (.t 36))), (.op (some 38) none (.slS (.t 32) none (some (.t 37)))), (.op (some 39) none
  (.call 38 [(.t 38)])), (.op (some 40) none (.mv (.t 0))), (.op (some 41) none (.lenS (.t 40))), (.op (some 42) none (.call 82 [(.t 39), (.t 41)])), (.op (some 31) none (.mv
  (.t 42))), (.op (some 43) none (.xt (.t 31) 0)), (.op (some 44) none (.xt (.t 31) 1)), (.op (some 8) none (.mv (.t 43))), (.op (some 9) none (.mv (.t 44)))]) (.seq
  (.reg [(.op (some 45) none (.mv (.t 7))), (.op (some 46) none (.un .not (.t 45))), (.op (some 47) none (.mv (.t 46))), (.op (some 48) (some (47, true)) (.mv (.t 9))),
  (.op (some 49) (some (47, true)) (.un .not (.t 48))), (.op (some 50) none (.pick (.t 47) (.t 49) (.c (.bool false)))), (.op (some 4) none (.mv (.t 50)))]) .ret))))))), [(.t 4)]⟩
def k23 : KFunc := ⟨40, (.seq (.reg [(.op (some 0) none (.mv (.c (.bool false))))]) (.seq (.reg [(.op (some 7) none (.build [(.int .i64 0), (.int .i64 0), (.int .i64 0),
  (.bool false), (.string (bs []))] [(0, (1, (.c (.int .i64 3)))), (1, (1, (.c (.int .i64 2))))])), (.op (some 8) none (.bsl 34 1 [(.int .i64 0), (.int .i64 0), (.int .i64 0),
  (.bool false), (.string (bs []))] [(0, (5, (.t 7)))])), (.op (some 9) none (.call 27 [(.t 8)])), (.op (some 6) none (.mv (.t 9))), (.op (some 10) none (.xt (.t 6) 0)),
  (.op (some 11) none (.xt (.t 6) 1)), (.op (some 1) none (.mv (.t 10))), (.op (some 2) none (.mv (.t 11)))]) (.seq (.reg [(.op (some 13) none (.mv (.t 1))), (.op (some 14) none
  (.call 28 [(.t 13)])), (.op (some 12) none (.mv (.t 14))), (.op (some 15) none (.xt (.t 12) 0)), (.op (some 16) none (.xt (.t 12) 1)), (.op (some 17) none (.xt (.t 12) 2)),
  (.op (some 3) none (.mv (.t 15))), (.op (some 4) none (.mv (.t 16))), (.op (some 5) none (.mv (.t 17)))]) (.seq (.reg [(.op (some 18) none (.mv (.t 2))), (.op (some 19) none
  (.bin .eql (.t 18) (.c (.int .i64 0)))), (.op (some 20) none (.mv (.t 19))), (.op (some 21) (some (20, true)) (.mv (.t 1))), (.op (some 22) (some (20, true)) (.bin .eql (.t 21)
  (.c (.string (bs [3, 2, 0, 0]))))), (.op (some 23) none (.pick (.t 20) (.t 22) (.c (.bool false)))), (.op (some 24) none (.mv (.t 23))), (.op (some 25) (some (24, true)) (.mv
  (.t 4))), (.op (some 26) (some (24, true)) (.bin .eql (.t 25) (.c (.int .i64 0)))), (.op (some 27) none (.pick (.t 24) (.t 26) (.c (.bool false)))), (.op (some 28) none (.mv
  (.t 27))), (.op (some 29) (some (28, true)) (.mv (.t 3))), (.op (some 30) (some (28, true)) (.lenL (.t 29))), (.op (some 31) (some (28, true)) (.bin .eql (.t 30) (.c
  (.int .i64 1)))), (.op (some 32) none (.pick (.t 28) (.t 31) (.c (.bool false)))), (.op (some 33) none (.mv (.t 32))), (.op (some 34) (some (33, true)) (.mv (.t 3))),
  (.op (some 35) (some (33, true)) (.iad 5 (.t 34) (.c (.int .i64 0)))), (.op (some 36) (some (33, true)) (.ldn 5 (.t 35))), (.op (some 37) (some (33, true))
  (.build [(.int .i64 0), (.int .i64 0), (.int .i64 0), (.bool false), (.string (bs []))] [(0, (1, (.c (.int .i64 3)))), (1, (1, (.c (.int .i64 2))))])), (.op (some 38) (some (33,
  true)) (.eqv (.agg [.int, .int, .int, .bool, .str]) false (.t 36) (.t 37))), (.op (some 39) none (.pick (.t 33) (.t 38) (.c (.bool false)))), (.op (some 0) none (.mv
  (.t 39)))]) .ret)))), [(.t 0)]⟩
def k24 : KFunc := ⟨37, (.seq (.reg [(.op (some 1) none (.box 34 (.t 0))), (.op (some 2) none (.mv (.c (.bool false))))]) (.seq (.reg [(.op (some 3) none (.fad 0 (.t 1))),
  (.op (some 4) none (.ld (.t 3))), (.op (some 5) none (.bin .geq (.t 4) (.c (.int .i64 0)))), (.op (some 6) none (.mv (.t 5))), (.op (some 7) (some (6, true)) (.fad 0 (.t 1))),
  (.op (some 8) (some (6, true)) (.ld (.t 7))), (.op (some 9) (some (6, true)) (.bin .leq (.t 8) (.c (.int .i64 9)))), (.op (some 10) none (.pick (.t 6) (.t 9) (.c
  (.bool false)))), (.op (some 11) none (.mv (.t 10))), (.op (some 12) (some (11, true)) (.fad 1 (.t 1))), (.op (some 13) (some (11, true)) (.ld (.t 12))),
  (.op (some 14) (some (11, true)) (.bin .geq (.t 13) (.c (.int .i64 0)))), (.op (some 15) none (.pick (.t 11) (.t 14) (.c (.bool false)))), (.op (some 16) none (.mv (.t 15))),
  (.op (some 17) (some (16, true)) (.fad 1 (.t 1))), (.op (some 18) (some (16, true)) (.ld (.t 17))), (.op (some 19) (some (16, true)) (.bin .leq (.t 18) (.c (.int .i64 255)))),
  (.op (some 20) none (.pick (.t 16) (.t 19) (.c (.bool false)))), (.op (some 21) none (.mv (.t 20))), (.op (some 22) (some (21, true)) (.fad 2 (.t 1))), (.op (some 23) (some (21,
  true)) (.ld (.t 22))), (.op (some 24) (some (21, true)) (.bin .geq (.t 23) (.c (.int .i64 0)))), (.op (some 25) none (.pick (.t 21) (.t 24) (.c (.bool false)))),
  (.op (some 26) none (.mv (.t 25))), (.op (some 27) (some (26, true)) (.fad 2 (.t 1))), (.op (some 28) (some (26, true)) (.ld (.t 27))), (.op (some 29) (some (26, true))
  (.bin .leq (.t 28) (.c (.int .i64 1073741824)))), (.op (some 30) none (.pick (.t 26) (.t 29) (.c (.bool false)))), (.op (some 31) none (.mv (.t 30))), (.op (some 32) (some (31,
  true)) (.fad 4 (.t 1))), (.op (some 33) (some (31, true)) (.ld (.t 32))), (.op (some 34) (some (31, true)) (.lenS (.t 33))), (.op (some 35) (some (31, true)) (.bin .leq (.t 34)
  (.c (.int .i64 600)))), (.op (some 36) none (.pick (.t 31) (.t 35) (.c (.bool false)))), (.op (some 2) none (.mv (.t 36)))]) .ret)), [(.t 2)]⟩
def k25 : KFunc := ⟨37, (.seq (.reg [(.op (some 1) none (.box 34 (.t 0))), (.op (some 2) none (.mv (.c (.bool false))))]) (.seq (.reg [(.op (some 3) none (.fad 0 (.t 1))),
  (.op (some 4) none (.ld (.t 3))), (.op (some 5) none (.bin .geq (.t 4) (.c (.int .i64 0)))), (.op (some 6) none (.mv (.t 5))), (.op (some 7) (some (6, true)) (.fad 0 (.t 1))),
  (.op (some 8) (some (6, true)) (.ld (.t 7))), (.op (some 9) (some (6, true)) (.bin .leq (.t 8) (.c (.int .i64 9)))), (.op (some 10) none (.pick (.t 6) (.t 9) (.c
  (.bool false)))), (.op (some 11) none (.mv (.t 10))), (.op (some 12) (some (11, true)) (.fad 1 (.t 1))), (.op (some 13) (some (11, true)) (.ld (.t 12))),
  (.op (some 14) (some (11, true)) (.bin .geq (.t 13) (.c (.int .i64 0)))), (.op (some 15) none (.pick (.t 11) (.t 14) (.c (.bool false)))), (.op (some 16) none (.mv (.t 15))),
  (.op (some 17) (some (16, true)) (.fad 1 (.t 1))), (.op (some 18) (some (16, true)) (.ld (.t 17))), (.op (some 19) (some (16, true)) (.bin .leq (.t 18) (.c (.int .i64 255)))),
  (.op (some 20) none (.pick (.t 16) (.t 19) (.c (.bool false)))), (.op (some 21) none (.mv (.t 20))), (.op (some 22) (some (21, true)) (.fad 2 (.t 1))), (.op (some 23) (some (21,
  true)) (.ld (.t 22))), (.op (some 24) (some (21, true)) (.bin .geq (.t 23) (.c (.int .i64 0)))), (.op (some 25) none (.pick (.t 21) (.t 24) (.c (.bool false)))),
  (.op (some 26) none (.mv (.t 25))), (.op (some 27) (some (26, true)) (.fad 2 (.t 1))), (.op (some 28) (some (26, true)) (.ld (.t 27))), (.op (some 29) (some (26, true))
  (.bin .leq (.t 28) (.c (.int .i64 1073741824)))), (.op (some 30) none (.pick (.t 26) (.t 29) (.c (.bool false)))), (.op (some 31) none (.mv (.t 30))), (.op (some 32) (some (31,
  true)) (.fad 4 (.t 1))), (.op (some 33) (some (31, true)) (.ld (.t 32))), (.op (some 34) (some (31, true)) (.lenS (.t 33))), (.op (some 35) (some (31, true)) (.bin .leq (.t 34)
  (.c (.int .i64 600)))), (.op (some 36) none (.pick (.t 31) (.t 35) (.c (.bool false)))), (.op (some 2) none (.mv (.t 36)))]) .ret)), [(.t 2)]⟩
def k26 : KFunc := ⟨26, (.seq (.reg [(.op (some 1) none (.box 34 (.t 0))), (.op (some 2) none (.mv (.c (.string (bs [])))))]) (.seq (.reg [(.op (some 4) none (.fad 0 (.t 1))),
  (.op (some 5) none (.ld (.t 4))), (.op (some 3) none (.mv (.t 5)))]) (.seq (.seq (.reg [(.op (some 6) none (.fad 3 (.t 1))), (.op (some 7) none (.ld (.t 6)))]) (.cond (.t 7)
  (.reg [(.op (some 8) none (.mv (.t 3))), (.op (some 9) none (.bin .add (.t 8) (.c (.int .i64 16)))), (.op (some 3) none (.mv (.t 9)))]) .skip)) (.seq .nev .ret)))), [(.t 2)]⟩
def k27 : KFunc := ⟨39, (.seq (.reg [(.op (some 2) none (.mv (.c (.string (bs []))))), (.op (some 3) none (.mv (.c (.int .i64 0))))]) (.seq (.reg [(.op (some 4) none
  (.alloc 110 [(.slice none 0 0)]))]) (.seq (.seq (.reg [(.op (some 8) none (.mv (.t 0))), (.op (some 9) none (.lenL (.t 8))), (.op (some 10) none (.mv (.c (.int .i64 0))))])
  (.block 0 (.loop (.seq (.reg [(.op (some 11) none (.bin .lss (.t 10) (.t 9)))]) (.seq (.cond (.t 11) .skip (.exit 0)) (.seq (.block 1 (.seq (.reg [(.op (some 12) none (.iad 5
  (.t 8) (.t 10))), (.op (some 13) none (.ldn 5 (.t 12))), (.op (some 6) none (.alloc 34 [(.int .i64 0), (.int .i64 0), (.int .i64 0), (.bool false), (.string (bs []))])),
  (.op none none (.stn 5 (.t 6) (.t 13)))]) (.seq (.seq (.reg [(.op (some 14) none (.ldn 5 (.t 6))), (.op (some 15) none (.call 24 [(.t 14)])), (.op (some 16) none (.un .not
  (.t 15)))]) (.cond (.t 16) (.seq (.reg [(.op (some 2) none (.mv (.c (.string (bs []))))), (.op (some 3) none (.mv (.c (.int .i64 3))))]) .ret) .skip)) (.seq
  (.reg [(.op (some 17) none (.fad 0 (.t 6))), (.op (some 18) none (.ld (.t 17))), (.op (some 7) none (.mv (.t 18)))]) (.seq (.seq (.reg [(.op (some 19) none (.fad 3 (.t 6))),
  (.op (some 20) none (.ld (.t 19)))]) (.cond (.t 20) (.reg [(.op (some 21) none (.mv (.t 7))), (.op (some 22) none (.bin .or (.t 21) (.c (.int .i64 16)))), (.op (some 7) none
  (.mv (.t 22)))]) .skip)) (.reg [(.op (some 23) none (.mv (.t 7))), (.op (some 24) none (.cvt .u64 (.t 23))), (.op (some 26) none (.fad 1 (.t 6))), (.op (some 27) none (.ld
  (.t 26))), (.op (some 28) none (.cvt .u64 (.t 27))), (.op (some 30) none (.fad 2 (.t 6))), (.op (some 31) none (.ld (.t 30))), (.op (some 32) none (.cvt .u64 (.t 31))),
  (.op (some 34) none (.fad 4 (.t 6))), (.op (some 35) none (.ld (.t 34))), (.op (some 25) none (.call 89 [(.t 4), (.t 24), (.c (.int .i64 1))])), (.chk 27 none (.ld (.t 26))),
  (.chk 31 none (.ld (.t 30))), (.chk 35 none (.ld (.t 34))), (.op (some 29) none (.call 89 [(.t 25), (.t 28), (.c (.int .i64 1))])), (.chk 31 none (.ld (.t 30))), (.chk 35 none
  (.ld (.t 34))), (.op (some 33) none (.call 90 [(.t 29), (.t 32)])), (.chk 35 none (.ld (.t 34))), (.op (some 36) none (.call 91 [(.t 33), (.t 35)]))]))))))
  (.reg [(.op (some 37) none (.bin .add (.t 10) (.c (.int .i64 1)))), (.op (some 10) none (.mv (.t 37)))]))))))) (.seq (.reg [(.op (some 38) none (.call 92 [(.t 4)])),
  (.op (some 2) none (.mv (.t 38))), (.op (some 3) none (.mv (.c (.int .i64 0))))]) .ret)))), [(.t 2), (.t 3)]⟩
def k28 : KFunc := ⟨37, (.seq (.reg [(.op (some 2) none (.mv (.c (.slice none 0 0)))), (.op (some 3) none (.mv (.c (.int .i64 0)))), (.op (some 4) none (.mv (.c (.int .i64 0))))])
  (.seq (.reg [(.op (some 5) none (.mv (.c (.slice none 0 0))))]) (.seq (.seq (.reg [(.op (some 6) none (.mv (.c (.int .i64 0))))]) (.block 0 (.loop (.seq (.seq
  (.reg [(.op (some 10) none (.mv (.t 6))), (.op (some 11) none (.mv (.t 0))), (.op (some 12) none (.lenS (.t 11))), (.op (some 13) none (.bin .lss (.t 10) (.t 12)))]) (.cond
  (.t 13) .skip (.exit 0))) (.block 1 (.seq (.reg [(.op (some 14) none (.mv (.t 0))), (.op (some 15) none (.mv (.t 6))), (.op (some 16) none (.slS (.t 14) (some (.t 15)) none)),
  (.op (some 17) none (.call 38 [(.t 16)])), (.op (some 7) none (.mv (.t 17)))]) (.seq (.reg [(.op (some 19) none (.mv (.t 7))), (.op (some 20) none (.call 93 [(.t 19)])),
  (.op (some 18) none (.mv (.t 20))), (.op (some 21) none (.xt (.t 18) 0)), (.op (some 22) none (.xt (.t 18) 1)), (.op (some 8) none (.alloc 34 [(.int .i64 0), (.int .i64 0),
  (.int .i64 0), (.bool false), (.string (bs []))])), (.op none none (.stn 5 (.t 8) (.t 21))), (.op (some 9) none (.mv (.t 22)))]) (.seq (.seq (.reg [(.op (some 23) none (.mv
  (.t 9))), (.op (some 24) none (.un .not (.t 23)))]) (.cond (.t 24) (.seq (.reg [(.op (some 25) none (.mv (.t 6))), (.op (some 2) none (.mv (.c (.slice none 0 0)))),
  (.op (some 3) none (.mv (.c (.int .i64 3)))), (.op (some 4) none (.mv (.t 25)))]) .ret) .skip)) (.seq (.reg [(.op (some 26) none (.mv (.t 5))), (.op (some 27) none (.ldn 5
  (.t 8))), (.op (some 28) none (.bsl 34 1 [(.int .i64 0), (.int .i64 0), (.int .i64 0), (.bool false), (.string (bs []))] [(0, (5, (.t 27)))])), (.op (some 29) none (.app 34 5 48
  (.t 26) (.t 28))), (.op (some 5) none (.mv (.t 29)))]) (.reg [(.op (some 30) none (.mv (.t 0))), (.op (some 31) none (.lenS (.t 30))), (.op (some 32) none (.mv (.t 7))),
  (.op (some 33) none (.call 43 [(.t 32)])), (.op (some 34) none (.lenS (.t 33))), (.op (some 35) none (.bin .sub (.t 31) (.t 34))), (.op (some 6) none (.mv (.t 35)))]))))))))))
  (.seq (.reg [(.op (some 36) none (.mv (.t 5))), (.op (some 2) none (.mv (.t 36))), (.op (some 3) none (.mv (.c (.int .i64 0)))), (.op (some 4) none (.mv (.c
  (.int .i64 0))))]) .ret)))), [(.t 2), (.t 3), (.t 4)]⟩
def k29 : KFunc := ⟨26, (.seq (.reg [(.op (some 4) none (.mv (.c (.bool false))))]) (.seq (.seq (.reg [(.op (some 6) none (.mv (.t 0))), (.op (some 7) none (.lenL (.t 6))),
  (.op (some 8) none (.mv (.t 1))), (.op (some 9) none (.lenL (.t 8))), (.op (some 10) none (.bin .neq (.t 7) (.t 9)))]) (.cond (.t 10) (.seq (.reg [(.op (some 4) none (.mv (.c
  (.bool false))))]) .ret) .skip)) (.seq (.seq (.reg [(.op (some 11) none (.mv (.t 0))), (.op (some 12) none (.lenL (.t 11))), (.op (some 13) none (.mv (.c (.int .i64 0))))])
  (.block 0 (.loop (.seq (.reg [(.op (some 14) none (.bin .lss (.t 13) (.t 12)))]) (.seq (.cond (.t 14) .skip (.exit 0)) (.seq (.block 1 (.seq (.reg [(.op (some 15) none (.mv
  (.t 13))), (.op (some 5) none (.mv (.t 15)))]) (.seq (.reg [(.op (some 16) none (.mv (.t 0))), (.op (some 17) none (.mv (.t 5))), (.op (some 18) none (.iad 5 (.t 16) (.t 17))),
  (.op (some 19) none (.ldn 5 (.t 18))), (.op (some 20) none (.mv (.t 1))), (.op (some 21) none (.mv (.t 5))), (.op (some 22) none (.iad 5 (.t 20) (.t 21))), (.op (some 23) none
  (.ldn 5 (.t 22))), (.op (some 24) none (.eqv (.agg [.int, .int, .int, .bool, .str]) true (.t 19) (.t 23)))]) (.cond (.t 24) (.seq (.reg [(.op (some 4) none (.mv (.c
  (.bool false))))]) .ret) .skip)))) (.reg [(.op (some 25) none (.bin .add (.t 13) (.c (.int .i64 1)))), (.op (some 13) none (.mv (.t 25)))]))))))) (.seq (.reg [(.op (some 4) none
  (.mv (.c (.bool true))))]) .ret)))), [(.t 4)]⟩
def k30 : KFunc := ⟨89, (.seq (.reg [(.op (some 2) none (.alloc 34 [(.int .i64 0), (.int .i64 0), (.int .i64 0), (.bool false), (.string (bs []))])), (.op (some 3) none (.mv (.c
  (.int .i64 0))))]) (.seq (.reg [(.op (some 4) none (.alloc 34 [(.int .i64 0), (.int .i64 0), (.int .i64 0), (.bool false), (.string (bs []))]))]) (.seq (.seq
  (.reg [(.op (some 10) none (.mv (.t 0))), (.op (some 11) none (.lenS (.t 10))), (.op (some 12) none (.bin .lss (.t 11) (.c (.int .i64 2)))), (.op (some 13) none (.mv (.t 12))),
  (.op (some 14) (some (13, false)) (.mv (.t 0))), (.op (some 15) (some (13, false)) (.idS (.t 14) (.c (.int .i64 0)))), (.op (some 16) (some (13, false)) (.bin .geq (.t 15) (.c
  (.int .u8 32)))), (.op (some 17) none (.pick (.t 13) (.c (.bool true)) (.t 16)))]) (.cond (.t 17) (.seq (.reg [(.op (some 18) none (.ldn 5 (.t 4))), (.op none none (.stn 5
  (.t 2) (.t 18))), (.op (some 3) none (.mv (.c (.int .i64 0))))]) .ret) .skip)) (.seq (.reg [(.op (some 20) none (.mv (.t 0))), (.op (some 21) none (.slS (.t 20) (some (.c
  (.int .i64 2))) none)), (.op (some 22) none (.call 94 [(.t 21)])), (.op (some 19) none (.mv (.t 22))), (.op (some 23) none (.xt (.t 19) 0)), (.op (some 24) none (.xt
  (.t 19) 1)), (.op (some 5) none (.mv (.t 23))), (.op (some 6) none (.mv (.t 24)))]) (.seq (.seq (.reg [(.op (some 25) none (.mv (.t 6))), (.op (some 26) none (.bin .eql (.t 25)
  (.c (.int .i64 0)))), (.op (some 27) none (.mv (.t 26))), (.op (some 28) (some (27, false)) (.mv (.t 5))), (.op (some 29) (some (27, false)) (.bin .gtr (.t 28) (.c
  (.int .u64 1073741824)))), (.op (some 30) none (.pick (.t 27) (.c (.bool true)) (.t 29)))]) (.cond (.t 30) (.seq (.reg [(.op (some 31) none (.ldn 5 (.t 4))), (.op none none
  (.stn 5 (.t 2) (.t 31))), (.op (some 3) none (.mv (.c (.int .i64 0))))]) .ret) .skip)) (.seq (.reg [(.op (some 33) none (.mv (.t 0))), (.op (some 34) none (.mv (.t 6))),
  (.op (some 35) none (.bin .add (.c (.int .i64 2)) (.t 34))), (.op (some 36) none (.slS (.t 33) (some (.t 35)) none)), (.op (some 37) none (.call 94 [(.t 36)])),
  (.op (some 32) none (.mv (.t 37))), (.op (some 38) none (.xt (.t 32) 0)), (.op (some 39) none (.xt (.t 32) 1)), (.op (some 7) none (.mv (.t 38))), (.op (some 8) none (.mv
  (.t 39)))]) (.seq (.reg [(.op (some 40) none (.mv (.t 6))), (.op (some 41) none (.bin .add (.c (.int .i64 2)) (.t 40))), (.op (some 42) none (.mv (.t 8))), (.op (some 43) none
  (.bin .add (.t 41) (.t 42))), (.op (some 9) none (.mv (.t 43)))]) (.seq (.seq (.reg [(.op (some 44) none (.mv (.t 8))), (.op (some 45) none (.bin .eql (.t 44) (.c
  (.int .i64 0)))), (.op (some 46) none (.mv (.t 45))), (.op (some 47) (some (46, false)) (.mv (.t 7))), (.op (some 48) (some (46, false)) (.bin .gtr (.t 47) (.c
  (.int .u64 600)))), (.op (some 49) none (.pick (.t 46) (.c (.bool true)) (.t 48))), (.op (some 50) none (.mv (.t 49))), (.op (some 51) (some (50, false)) (.mv (.t 7))),
  (.op (some 52) (some (50, false)) (.mv (.t 0))), (.op (some 53) (some (50, false)) (.lenS (.t 52))), (.op (some 54) (some (50, false)) (.mv (.t 9))), (.op (some 55) (some (50,
  false)) (.bin .sub (.t 53) (.t 54))), (.op (some 56) (some (50, false)) (.cvt .u64 (.t 55))), (.op (some 57) (some (50, false)) (.bin .gtr (.t 51) (.t 56))), (.op (some 58) none
  (.pick (.t 50) (.c (.bool true)) (.t 57)))]) (.cond (.t 58) (.seq (.reg [(.op (some 59) none (.ldn 5 (.t 4))), (.op none none (.stn 5 (.t 2) (.t 59))), (.op (some 3) none (.mv
  (.c (.int .i64 0))))]) .ret) .skip)) (.seq (.reg [(.op (some 60) none (.mv (.t 0))), (.op (some 61) none (.idS (.t 60) (.c (.int .i64 0)))), (.op (some 62) none (.cvt .i64
  (.t 61))), (.op (some 63) none (.bin .rem (.t 62) (.c (.int .i64 16)))), (.op (some 64) none (.mv (.t 0))), (.op (some 65) none (.idS (.t 64) (.c (.int .i64 0)))),
  (.op (some 66) none (.bin .geq (.t 65) (.c (.int .u8 16)))), (.op (some 67) none (.mv (.t 0))), (.op (some 68) none (.idS (.t 67) (.c (.int .i64 1)))), (.op (some 69) none
  (.cvt .i64 (.t 68))), (.op (some 70) none (.mv (.t 5))), (.op (some 71) none (.cvt .i64 (.t 70))), (.op (some 72) none (.mv (.t 0))), (.op (some 73) none (.mv (.t 9))),
  (.op (some 74) none (.mv (.t 9))), (.op (some 75) none (.mv (.t 7))), (.op (some 76) none (.cvt .i64 (.t 75))), (.op (some 77) none (.bin .add (.t 74) (.t 76))),
  (.op (some 78) none (.slS (.t 72) (some (.t 73)) (some (.t 77)))), (.op (some 79) none (.build [(.int .i64 0), (.int .i64 0), (.int .i64 0), (.bool false),
  (.string (bs []))] [(0, (1, (.t 63))), (3, (1, (.t 66))), (1, (1, (.t 69))), (2, (1, (.t 71))), (4, (1, (.t 78)))])), (.op none none (.stn 5 (.t 4) (.t 79)))]) (.seq (.seq
  (.reg [(.op (some 80) none (.ldn 5 (.t 4))), (.op (some 81) none (.call 25 [(.t 80)])), (.op (some 82) none (.un .not (.t 81)))]) (.cond (.t 82) (.seq (.reg [(.op (some 83) none
  (.build [(.int .i64 0), (.int .i64 0), (.int .i64 0), (.bool false), (.string (bs []))] [])), (.op none none (.stn 5 (.t 2) (.t 83))), (.op (some 3) none (.mv (.c
  (.int .i64 0))))]) .ret) .skip)) (.seq (.reg [(.op (some 84) none (.ldn 5 (.t 4))), (.op (some 85) none (.mv (.t 9))), (.op (some 86) none (.mv (.t 7))), (.op (some 87) none
  (.cvt .i64 (.t 86))), (.op (some 88) none (.bin .add (.t 85) (.t 87))), (.op none none (.stn 5 (.t 2) (.t 84))), (.op (some 3) none (.mv (.t 88)))]) .ret))))))))))), [(.cn 2 5),
  (.t 3)]⟩
def k31 : KFunc := ⟨32, (.seq (.reg [(.op (some 0) none (.mv (.c (.bool false))))]) (.seq (.reg [(.op (some 6) none (.bsl 3 3 [(.int .i64 0), (.int .i64 0), (.int .i64 0)] [(0,
  (1, (.c (.int .i64 1)))), (1, (1, (.c (.int .i64 2)))), (2, (1, (.c (.int .i64 2))))])), (.op (some 1) none (.mv (.t 6)))]) (.seq (.reg [(.op (some 8) none (.mv (.t 1))),
  (.op (some 9) none (.bsl 5 3 [(.int .u8 0), (.int .u8 0), (.int .u8 0)] [(0, (1, (.c (.int .u8 0)))), (1, (1, (.c (.int .u8 1)))), (2, (1, (.c (.int .u8 2))))])),
  (.op (some 10) none (.call 35 [(.t 8), (.t 9)])), (.op (some 7) none (.mv (.t 10))), (.op (some 11) none (.xt (.t 7) 0)), (.op (some 12) none (.xt (.t 7) 1)), (.op (some 2) none
  (.mv (.t 11))), (.op (some 3) none (.mv (.t 12)))]) (.seq (.reg [(.op (some 14) none (.mv (.t 1))), (.op (some 15) none (.mv (.t 2))), (.op (some 16) none (.call 33 [(.t 14),
  (.t 15), (.c (.int .i64 3))])), (.op (some 13) none (.mv (.t 16))), (.op (some 17) none (.xt (.t 13) 0)), (.op (some 18) none (.xt (.t 13) 1)), (.op (some 4) none (.mv
  (.t 17))), (.op (some 5) none (.mv (.t 18)))]) (.seq (.reg [(.op (some 19) none (.mv (.t 3))), (.op (some 20) none (.mv (.t 19))), (.op (some 21) (some (20, true)) (.mv
  (.t 5))), (.op (some 22) none (.pick (.t 20) (.t 21) (.c (.bool false)))), (.op (some 23) none (.mv (.t 22))), (.op (some 24) (some (23, true)) (.mv (.t 2))),
  (.op (some 25) (some (23, true)) (.bin .eql (.t 24) (.c (.string (bs [26]))))), (.op (some 26) none (.pick (.t 23) (.t 25) (.c (.bool false)))), (.op (some 27) none (.mv
  (.t 26))), (.op (some 28) (some (27, true)) (.mv (.t 4))), (.op (some 29) (some (27, true)) (.b2s 5 (.t 28))), (.op (some 30) (some (27, true)) (.bin .eql (.t 29) (.c
  (.string (bs [0, 1, 2]))))), (.op (some 31) none (.pick (.t 27) (.t 30) (.c (.bool false)))), (.op (some 0) none (.mv (.t 31)))]) .ret))))), [(.t 0)]⟩
def k32 : KFunc := ⟨40, (.seq (.reg [(.op (some 2) none (.mv (.c (.bool false))))]) (.seq (.seq (.reg [(.op (some 6) none (.mv (.t 0))), (.op (some 7) none (.call 73 [(.t 6)])),
  (.op (some 8) none (.un .not (.t 7)))]) (.cond (.t 8) (.seq (.reg [(.op (some 2) none (.mv (.c (.bool false))))]) .ret) .skip)) (.seq (.reg [(.op (some 3) none (.mv (.c
  (.int .i64 0))))]) (.seq (.reg [(.op (some 4) none (.mv (.c (.int .i64 0))))]) (.seq (.seq (.reg [(.op (some 5) none (.mv (.c (.int .i64 0))))]) (.block 0 (.loop (.seq (.seq
  (.reg [(.op (some 9) none (.mv (.t 5))), (.op (some 10) none (.mv (.t 0))), (.op (some 11) none (.lenL (.t 10))), (.op (some 12) none (.bin .lss (.t 9) (.t 11)))]) (.cond
  (.t 12) .skip (.exit 0))) (.seq (.block 1 (.seq (.reg [(.op (some 15) none (.mv (.t 0))), (.op (some 16) none (.mv (.t 5))), (.op (some 17) none (.iad 1 (.t 15) (.t 16))),
  (.op (some 18) none (.ld (.t 17))), (.op (some 19) none (.bin .gtr (.t 18) (.c (.int .i64 0))))]) (.cond (.t 19) (.seq (.reg [(.op (some 20) none (.mv (.t 3))),
  (.op (some 21) none (.mv (.t 0))), (.op (some 22) none (.mv (.t 5))), (.op (some 23) none (.iad 1 (.t 21) (.t 22))), (.op (some 24) none (.ld (.t 23))), (.op (some 25) none
  (.bin .sub (.c (.int .i64 11)) (.t 24))), (.op (some 26) none (.call 95 [(.t 25)])), (.op (some 27) none (.bin .add (.t 20) (.t 26))), (.op (some 3) none (.mv (.t 27)))])
  (.reg [(.op (some 28) none (.mv (.t 4))), (.op (some 29) none (.bin .add (.t 28) (.c (.int .i64 1)))), (.op (some 4) none (.mv (.t 29)))])) .skip))) (.reg [(.op (some 13) none
  (.mv (.t 5))), (.op (some 14) none (.bin .add (.t 13) (.c (.int .i64 1)))), (.op (some 5) none (.mv (.t 14)))])))))) (.seq (.reg [(.op (some 30) none (.mv (.t 3))),
  (.op (some 31) none (.bin .eql (.t 30) (.c (.int .i64 2048)))), (.op (some 32) none (.mv (.t 31))), (.op (some 33) (some (32, false)) (.mv (.t 4))), (.op (some 34) (some (32,
  false)) (.bin .eql (.t 33) (.c (.int .i64 1)))), (.op (some 35) (some (32, false)) (.mv (.t 34))), (.op (some 36) (some (35, true)) (.mv (.t 3))), (.op (some 37) (some (35,
  true)) (.bin .eql (.t 36) (.c (.int .i64 1024)))), (.op (some 38) (some (32, false)) (.pick (.t 35) (.t 37) (.c (.bool false)))), (.op (some 39) none (.pick (.t 32) (.c
  (.bool true)) (.t 38))), (.op (some 2) none (.mv (.t 39)))]) .ret)))))), [(.t 2)]⟩
def k33 : KFunc := ⟨64, (.seq (.reg [(.op (some 6) none (.mv (.c (.slice none 0 0)))), (.op (some 7) none (.mv (.c (.bool false))))]) (.seq (.seq (.reg [(.op (some 16) none (.mv
  (.t 0))), (.op (some 17) none (.call 68 [(.t 16)])), (.op (some 18) none (.un .not (.t 17))), (.op (some 19) none (.mv (.t 18))), (.op (some 20) (some (19, false)) (.mv
  (.t 2))), (.op (some 21) (some (19, false)) (.bin .lss (.t 20) (.c (.int .i64 0)))), (.op (some 22) none (.pick (.t 19) (.c (.bool true)) (.t 21))), (.op (some 23) none (.mv
  (.t 22))), (.op (some 24) (some (23, false)) (.mv (.t 2))), (.op (some 25) (some (23, false)) (.bin .gtr (.t 24) (.c (.int .i64 1048576)))), (.op (some 26) none (.pick (.t 23)
  (.c (.bool true)) (.t 25)))]) (.cond (.t 26) (.seq (.reg [(.op (some 6) none (.mv (.c (.slice none 0 0)))), (.op (some 7) none (.mv (.c (.bool false))))]) .ret) .skip)) (.seq
  (.reg [(.op (some 27) none (.mv (.t 0))), (.op (some 28) none (.call 96 [(.t 27)])), (.op (some 29) none (.mv (.t 1))), (.op (some 30) none (.s2b 5 (.t 29))),
  (.op (some 31) none (.call 97 [(.t 30)])), (.op (some 8) none (.mv (.t 28))), (.op (some 9) none (.mv (.t 31)))]) (.seq (.reg [(.op (some 10) none (.mv (.c
  (.slice none 0 0))))]) (.seq (.seq (.reg [(.op (some 32) none (.mv (.t 2))), (.op (some 33) none (.mv (.c (.int .i64 0))))]) (.block 0 (.loop (.seq (.reg [(.op (some 34) none
  (.bin .lss (.t 33) (.t 32)))]) (.seq (.cond (.t 34) .skip (.exit 0)) (.seq (.block 1 (.seq (.reg [(.op (some 36) none (.mv (.t 8))), (.op (some 37) none (.mv (.t 9))),
  (.op (some 38) none (.call 98 [(.t 36), (.t 37)])), (.op (some 35) none (.mv (.t 38))), (.op (some 39) none (.xt (.t 35) 0)), (.op (some 40) none (.xt (.t 35) 1)),
  (.op (some 11) none (.mv (.t 39))), (.op (some 12) none (.mv (.t 40)))]) (.seq (.seq (.reg [(.op (some 41) none (.mv (.t 12))), (.op (some 42) none (.un .not (.t 41)))]) (.cond
  (.t 42) (.seq (.reg [(.op (some 6) none (.mv (.c (.slice none 0 0)))), (.op (some 7) none (.mv (.c (.bool false))))]) .ret) .skip)) (.reg [(.op (some 43) none (.mv (.t 10))),
  (.op (some 44) none (.mv (.t 11))), (.op (some 45) none (.bsl 5 1 [(.int .u8 0)] [(0, (1, (.t 44)))])), (.op (some 46) none (.app 5 1 1 (.t 43) (.t 45))), (.op (some 10) none
  (.mv (.t 46)))])))) (.reg [(.op (some 47) none (.bin .add (.t 33) (.c (.int .i64 1)))), (.op (some 33) none (.mv (.t 47)))]))))))) (.seq (.reg [(.op (some 48) none (.mv
  (.t 9))), (.op (some 49) none (.call 99 [(.t 48)])), (.op (some 13) none (.mv (.t 49)))]) (.seq (.seq (.reg [(.op (some 51) none (.mv (.t 9))), (.op (some 52) none (.mv
  (.t 13))), (.op (some 53) none (.mn (.t 52) [(.c (.int .i64 8))])), (.op (some 54) none (.call 100 [(.t 51), (.t 53)])), (.op (some 50) none (.mv (.t 54))), (.op (some 55) none
  (.xt (.t 50) 0)), (.op (some 56) none (.xt (.t 50) 1)), (.op (some 14) none (.mv (.t 55))), (.op (some 15) none (.mv (.t 56)))]) (.seq (.reg [(.op (some 57) none (.mv (.t 13))),
  (.op (some 58) none (.bin .gtr (.t 57) (.c (.int .i64 7)))), (.op (some 59) none (.mv (.t 58))), (.op (some 60) (some (59, false)) (.mv (.t 14))), (.op (some 61) (some (59,
  false)) (.bin .neq (.t 60) (.c (.int .u32 0)))), (.op (some 62) none (.pick (.t 59) (.c (.bool true)) (.t 61)))]) (.cond (.t 62) (.seq (.reg [(.op (some 6) none (.mv (.c
  (.slice none 0 0)))), (.op (some 7) none (.mv (.c (.bool false))))]) .ret) .skip))) (.seq (.reg [(.op (some 63) none (.mv (.t 10))), (.op (some 6) none (.mv (.t 63))),
  (.op (some 7) none (.mv (.c (.bool true))))]) .ret)))))))), [(.t 6), (.t 7)]⟩
def k34 : KFunc := ⟨88, (.seq (.reg [(.op (some 6) none (.mv (.c (.slice none 0 0)))), (.op (some 7) none (.mv (.c (.bool false))))]) (.seq (.reg [(.op (some 8) none
  (.alloc 128 [(.slice none 0 0), (.slice none 0 0), (.slice none 0 0), (.slice none 0 0), (.slice none 0 0), (.slice none 0 0), (.slice none 0 0), (.slice none 0 0),
  (.slice none 0 0), (.slice none 0 0), (.slice none 0 0), (.slice none 0 0), (.slice none 0 0), (.slice none 0 0), (.slice none 0 0), (.slice none 0 0), (.slice none 0 0),
  (.slice none 0 0), (.slice none 0 0), (.slice none 0 0), (.slice none 0 0), (.slice none 0 0), (.slice none 0 0), (.slice none 0 0), (.slice none 0 0), (.slice none 0 0),
  (.slice none 0 0), (.slice none 0 0), (.slice none 0 0), (.slice none 0 0), (.slice none 0 0), (.slice none 0 0), (.slice none 0 0), (.slice none 0 0), (.slice none 0 0),
  (.slice none 0 0), (.slice none 0 0), (.slice none 0 0), (.slice none 0 0), (.slice none 0 0), (.slice none 0 0), (.slice none 0 0), (.slice none 0 0), (.slice none 0 0),
  (.slice none 0 0), (.slice none 0 0), (.slice none 0 0), (.slice none 0 0), (.slice none 0 0), (.slice none 0 0), (.slice none 0 0), (.slice none 0 0), (.slice none 0 0),
  (.slice none 0 0), (.slice none 0 0), (.slice none 0 0), (.slice none 0 0), (.slice none 0 0), (.slice none 0 0), (.slice none 0 0), (.slice none 0 0), (.slice none 0 0),
  (.slice none 0 0), (.slice none 0 0), (.slice none 0 0), (.slice none 0 0), (.slice none 0 0), (.slice none 0 0), (.slice none 0 0), (.slice none 0 0), (.slice none 0 0),
  (.slice none 0 0), (.slice none 0 0), (.slice none 0 0), (.slice none 0 0), (.slice none 0 0), (.slice none 0 0), (.slice none 0 0), (.slice none 0 0), (.slice none 0 0),
  (.slice none 0 0), (.slice none 0 0), (.slice none 0 0), (.slice none 0 0), (.slice none 0 0), (.slice none 0 0), (.slice none 0 0), (.slice none 0 0), (.slice none 0 0),
  (.slice none 0 0), (.slice none 0 0), (.slice none 0 0), (.slice none 0 0), (.slice none 0 0), (.slice none 0 0), (.slice none 0 0), (.slice none 0 0), (.slice none 0 0),
  (.slice none 0 0), (.slice none 0 0), (.slice none 0 0), (.slice none 0 0), (.slice none 0 0), (.slice none 0 0), (.slice none 0 0), (.slice none 0 0), (.slice none 0 0),
  (.slice none 0 0), (.slice none 0 0), (.slice none 0 0), (.slice none 0 0), (.slice none 0 0), (.slice none 0 0), (.slice none 0 0), (.slice none 0 0), (.slice none 0 0),
  (.slice none 0 0), (.slice none 0 0), (.slice none 0 0), (.slice none 0 0), (.slice none 0 0), (.slice none 0 0), (.slice none 0 0), (.slice none 0 0), (.slice none 0 0),
  (.slice none 0 0), (.slice none 0 0), (.slice none 0 0), (.slice none 0 0), (.slice none 0 0), (.slice none 0 0), (.slice none 0 0), (.slice none 0 0), (.slice none 0 0),
  (.slice none 0 0), (.slice none 0 0), (.slice none 0 0), (.slice none 0 0), (.slice none 0 0), (.slice none 0 0), (.slice none 0 0), (.slice none 0 0), (.slice none 0 0),
  (.slice none 0 0), (.slice none 0 0), (.slice none 0 0), (.slice none 0 0), (.slice none 0 0), (.slice none 0 0), (.slice none 0 0), (.slice none 0 0), (.slice none 0 0),
  (.slice none 0 0), (.slice none 0 0), (.slice none 0 0), (.slice none 0 0), (.slice none 0 0), (.slice none 0 0), (.slice none 0 0), (.slice none 0 0), (.slice none 0 0),
  (.slice none 0 0), (.slice none 0 0), (.slice none 0 0), (.slice none 0 0), (.slice none 0 0), (.slice none 0 0), (.slice none 0 0), (.slice none 0 0), (.slice none 0 0),
  (.slice none 0 0), (.slice none 0 0), (.slice none 0 0), (.slice none 0 0), (.slice none 0 0), (.slice none 0 0), (.slice none 0 0), (.slice none 0 0), (.slice none 0 0),
  (.slice none 0 0), (.slice none 0 0), (.slice none 0 0), (.slice none 0 0), (.slice none 0 0), (.slice none 0 0), (.slice none 0 0), (.slice none 0 0), (.slice none 0 0),
  (.slice none 0 0), (.slice none 0 0), (.slice none 0 0), (.slice none 0 0), (.slice none 0 0), (.slice none 0 0), (.slice none 0 0), (.slice none 0 0), (.slice none 0 0),
  (.slice none 0 0), (.slice none 0 0), (.slice none 0 0), (.slice none 0 0), (.slice none 0 0), (.slice none 0 0), (.slice none 0 0), (.slice none 0 0), (.slice none 0 0),
  (.slice none 0 0), (.slice none 0 0), (.slice none 0 0), (.slice none 0 0), (.slice none 0 0), (.slice none 0 0), (.slice none 0 0), (.slice none 0 0), (.slice none 0 0),
  (.slice none 0 0), (.slice none 0 0), (.slice none 0 0), (.slice none 0 0), (.slice none 0 0), (.slice none 0 0), (.slice none 0 0), (.slice none 0 0), (.slice none 0 0),
  (.slice none 0 0), (.slice none 0 0), (.slice none 0 0), (.slice none 0 0), (.slice none 0 0), (.slice none 0 0), (.slice none 0 0), (.slice none 0 0), (.slice none 0 0),
  (.slice none 0 0), (.slice none 0 0), (.slice none 0 0), (.slice none 0 0), (.slice none 0 0), (.slice none 0 0), (.slice none 0 0), (.slice none 0 0), (.slice none 0 0),
  (.slice none 0 0), (.slice none 0 0), (.slice none 0 0), (.slice none 0 0), (.slice none 0 0), (.slice none 0 0), (.slice none 0 0), (.slice none 0 0), (.slice none 0 0),
  (.slice none 0 0), (.slice none 0 0), (.slice none 0 0), (.slice none 0 0), (.slice none 0 0)]))]) (.seq (.seq (.reg [(.op (some 9) none (.mv (.c (.int .i64 0))))]) (.block 0
  (.loop (.seq (.seq (.reg [(.op (some 16) none (.mv (.t 9))), (.op (some 17) none (.mv (.t 0))), (.op (some 18) none (.lenL (.t 17))), (.op (some 19) none (.bin .lss (.t 16)
  (.t 18)))]) (.cond (.t 19) .skip (.exit 0))) (.seq (.block 1 (.seq (.reg [(.op (some 22) none (.mv (.t 0))), (.op (some 23) none (.mv (.t 9))), (.op (some 24) none (.iad 1
  (.t 22) (.t 23))), (.op (some 25) none (.ld (.t 24))), (.op (some 26) none (.bin .gtr (.t 25) (.c (.int .i64 0))))]) (.cond (.t 26) (.reg [(.op (some 27) none (.mv (.t 9))),
  (.op (some 28) none (.mv (.t 0))), (.op (some 29) none (.mv (.t 9))), (.op (some 30) none (.call 101 [(.t 28), (.t 29)])), (.op (some 31) none (.iada 256 1 (.t 8) (.t 27))),
  (.op none none (.st (.t 31) (.t 30)))]) .skip))) (.reg [(.op (some 20) none (.mv (.t 9))), (.op (some 21) none (.bin .add (.t 20) (.c (.int .i64 1)))), (.op (some 9) none (.mv
  (.t 21)))])))))) (.seq (.reg [(.op (some 32) none (.mv (.t 1))), (.op (some 33) none (.s2b 5 (.t 32))), (.op (some 34) none (.call 102 [(.t 33)])), (.op (some 10) none (.mv
  (.t 34)))]) (.seq (.reg [(.op (some 11) none (.mv (.c (.slice none 0 0))))]) (.seq (.seq (.reg [(.op (some 12) none (.mv (.c (.int .i64 0))))]) (.block 2 (.loop (.seq (.seq
  (.reg [(.op (some 35) none (.mv (.t 12))), (.op (some 36) none (.mv (.t 2))), (.op (some 37) none (.bin .lss (.t 35) (.t 36)))]) (.cond (.t 37) .skip (.exit 2))) (.seq (.block 3
  (.seq (.reg [(.op (some 13) none (.mv (.c (.int .i64 (-1)))))]) (.seq (.seq (.reg [(.op (some 14) none (.mv (.c (.int .i64 0))))]) (.block 4 (.loop (.seq (.seq
  (.reg [(.op (some 40) none (.mv (.t 14))), (.op (some 41) none (.mv (.t 0))), (.op (some 42) none (.lenL (.t 41))), (.op (some 43) none (.bin .lss (.t 40) (.t 42)))]) (.cond
  (.t 43) .skip (.exit 4))) (.seq (.block 5 (.seq (.reg [(.op (some 46) none (.mv (.t 0))), (.op (some 47) none (.mv (.t 14))), (.op (some 48) none (.iad 1 (.t 46) (.t 47))),
  (.op (some 49) none (.ld (.t 48))), (.op (some 50) none (.bin .gtr (.t 49) (.c (.int .i64 0)))), (.op (some 51) none (.mv (.t 50))), (.op (some 52) (some (51, true)) (.mv
  (.t 10))), (.op (some 53) (some (51, true)) (.mv (.t 14))), (.op (some 54) (some (51, true)) (.iada 256 1 (.t 8) (.t 53))), (.op (some 55) (some (51, true)) (.ld (.t 54))),
  (.op (some 56) (some (51, true)) (.call 103 [(.t 52), (.t 55)])), (.op (some 57) none (.pick (.t 51) (.t 56) (.c (.bool false))))]) (.cond (.t 57) (.reg [(.op (some 58) none
  (.mv (.t 14))), (.op (some 13) none (.mv (.t 58)))]) .skip))) (.reg [(.op (some 44) none (.mv (.t 14))), (.op (some 45) none (.bin .add (.t 44) (.c (.int .i64 1)))),
  (.op (some 14) none (.mv (.t 45)))])))))) (.seq (.seq (.reg [(.op (some 59) none (.mv (.t 13))), (.op (some 60) none (.bin .lss (.t 59) (.c (.int .i64 0))))]) (.cond (.t 60)
  (.seq (.reg [(.op (some 6) none (.mv (.c (.slice none 0 0)))), (.op (some 7) none (.mv (.c (.bool false))))]) .ret) .skip)) (.seq (.reg [(.op (some 61) none (.mv (.t 11))),
  (.op (some 62) none (.mv (.t 13))), (.op (some 63) none (.cvt .u8 (.t 62))), (.op (some 64) none (.bsl 5 1 [(.int .u8 0)] [(0, (1, (.t 63)))])), (.op (some 65) none (.app 5 1 1
  (.t 61) (.t 64))), (.op (some 11) none (.mv (.t 65)))]) (.reg [(.op (some 66) none (.mv (.t 10))), (.op (some 67) none (.mv (.t 0))), (.op (some 68) none (.mv (.t 13))),
  (.op (some 69) none (.iad 1 (.t 67) (.t 68))), (.op (some 70) none (.ld (.t 69))), (.op (some 71) none (.slc 3 1 (.t 66) (some (.t 70)) none)), (.op (some 10) none (.mv
  (.t 71)))])))))) (.reg [(.op (some 38) none (.mv (.t 12))), (.op (some 39) none (.bin .add (.t 38) (.c (.int .i64 1)))), (.op (some 12) none (.mv (.t 39)))])))))) (.seq (.seq
  (.reg [(.op (some 15) none (.mv (.c (.int .i64 0))))]) (.block 6 (.loop (.seq (.seq (.reg [(.op (some 72) none (.mv (.t 15))), (.op (some 73) none (.mv (.t 10))),
  (.op (some 74) none (.lenL (.t 73))), (.op (some 75) none (.bin .lss (.t 72) (.t 74)))]) (.cond (.t 75) .skip (.exit 6))) (.seq (.block 7 (.seq (.reg [(.op (some 78) none (.mv
  (.t 10))), (.op (some 79) none (.mv (.t 15))), (.op (some 80) none (.iad 1 (.t 78) (.t 79))), (.op (some 81) none (.ld (.t 80))), (.op (some 82) none (.bin .neq (.t 81) (.c
  (.int .i64 0)))), (.op (some 83) none (.mv (.t 82))), (.op (some 84) (some (83, false)) (.mv (.t 15))), (.op (some 85) (some (83, false)) (.bin .geq (.t 84) (.c
  (.int .i64 7)))), (.op (some 86) none (.pick (.t 83) (.c (.bool true)) (.t 85)))]) (.cond (.t 86) (.seq (.reg [(.op (some 6) none (.mv (.c (.slice none 0 0)))),
  (.op (some 7) none (.mv (.c (.bool false))))]) .ret) .skip))) (.reg [(.op (some 76) none (.mv (.t 15))), (.op (some 77) none (.bin .add (.t 76) (.c (.int .i64 1)))),
  (.op (some 15) none (.mv (.t 77)))])))))) (.seq (.reg [(.op (some 87) none (.mv (.t 11))), (.op (some 6) none (.mv (.t 87))), (.op (some 7) none (.mv (.c
  (.bool true))))]) .ret)))))))), [(.t 6), (.t 7)]⟩
def k35 : KFunc := ⟨53, (.seq (.reg [(.op (some 4) none (.mv (.c (.string (bs []))))), (.op (some 5) none (.mv (.c (.bool false))))]) (.seq (.reg [(.op (some 12) none (.mv
  (.t 0))), (.op (some 13) none (.call 67 [(.t 12)])), (.op (some 11) none (.mv (.t 13))), (.op (some 14) none (.xt (.t 11) 0)), (.op (some 15) none (.xt (.t 11) 1)),
  (.op (some 6) none (.mv (.t 14))), (.op (some 7) none (.mv (.t 15)))]) (.seq (.seq (.reg [(.op (some 16) none (.mv (.t 7))), (.op (some 17) none (.un .not (.t 16)))]) (.cond
  (.t 17) (.seq (.reg [(.op (some 4) none (.mv (.c (.string (bs []))))), (.op (some 5) none (.mv (.c (.bool false))))]) .ret) .skip)) (.seq (.reg [(.op (some 8) none
  (.alloc 130 [(.slice none 0 0), (.int .i64 0)]))]) (.seq (.seq (.reg [(.op (some 18) none (.mv (.t 1))), (.op (some 19) none (.lenL (.t 18))), (.op (some 20) none (.mv (.c
  (.int .i64 0))))]) (.block 0 (.loop (.seq (.reg [(.op (some 21) none (.bin .lss (.t 20) (.t 19)))]) (.seq (.cond (.t 21) .skip (.exit 0)) (.seq (.block 1 (.seq
  (.reg [(.op (some 22) none (.iad 1 (.t 18) (.t 20))), (.op (some 23) none (.ld (.t 22))), (.op (some 10) none (.mv (.t 23)))]) (.seq (.seq (.reg [(.op (some 24) none (.mv
  (.t 10))), (.op (some 25) none (.cvt .i64 (.t 24))), (.op (some 26) none (.mv (.t 0))), (.op (some 27) none (.lenL (.t 26))), (.op (some 28) none (.bin .geq (.t 25) (.t 27))),
  (.op (some 29) none (.mv (.t 28))), (.op (some 30) (some (29, false)) (.mv (.t 0))), (.op (some 31) (some (29, false)) (.mv (.t 10))), (.op (some 32) (some (29, false)) (.iad 1
  (.t 30) (.t 31))), (.op (some 33) (some (29, false)) (.ld (.t 32))), (.op (some 34) (some (29, false)) (.bin .eql (.t 33) (.c (.int .i64 0)))), (.op (some 35) none (.pick
  (.t 29) (.c (.bool true)) (.t 34)))]) (.cond (.t 35) (.seq (.reg [(.op (some 4) none (.mv (.c (.string (bs []))))), (.op (some 5) none (.mv (.c (.bool false))))]) .ret) .skip))
  (.reg [(.op (some 36) none (.mv (.t 6))), (.op (some 37) none (.mv (.t 10))), (.op (some 38) none (.iad 1 (.t 36) (.t 37))), (.op (some 39) none (.ld (.t 38))),
  (.op (some 40) none (.mv (.t 0))), (.op (some 41) none (.mv (.t 10))), (.op (some 42) none (.iad 1 (.t 40) (.t 41))), (.op (some 43) none (.ld (.t 42))), (.op (some 45) none
  (.mv (.t 0))), (.op (some 46) none (.mv (.t 10))), (.op (some 47) none (.iad 1 (.t 45) (.t 46))), (.op (some 48) none (.ld (.t 47))), (.op (some 44) none (.call 105 [(.t 39),
  (.t 43)])), (.chk 48 none (.ld (.t 47))), (.op (some 49) none (.call 104 [(.t 8), (.t 44), (.t 48)]))])))) (.reg [(.op (some 50) none (.bin .add (.t 20) (.c (.int .i64 1)))),
  (.op (some 20) none (.mv (.t 50)))]))))))) (.seq (.reg [(.op (some 51) none (.call 106 [(.t 8)])), (.op (some 52) none (.b2s 5 (.t 51))), (.op (some 4) none (.mv (.t 52))),
  (.op (some 5) none (.mv (.c (.bool true))))]) .ret)))))), [(.t 4), (.t 5)]⟩
def k36 : KFunc := ⟨49, (.seq (.reg [(.op (some 2) none (.mv (.c (.string (bs []))))), (.op (some 3) none (.mv (.c (.bool false))))]) (.seq (.seq (.reg [(.op (some 8) none (.mv
  (.t 0))), (.op (some 9) none (.call 68 [(.t 8)])), (.op (some 10) none (.un .not (.t 9)))]) (.cond (.t 10) (.seq (.reg [(.op (some 2) none (.mv (.c (.string (bs []))))),
  (.op (some 3) none (.mv (.c (.bool false))))]) .ret) .skip)) (.seq (.reg [(.op (some 11) none (.mv (.t 0))), (.op (some 12) none (.call 107 [(.t 11)])), (.op (some 4) none (.mv
  (.t 12)))]) (.seq (.reg [(.op (some 13) none (.mv (.t 4))), (.op (some 14) none (.lenL (.t 13))), (.op (some 15) none (.bin .sub (.t 14) (.c (.int .i64 1)))),
  (.op (some 16) none (.cvt .u8 (.t 15))), (.op (some 17) none (.bsl 5 1 [(.int .u8 0)] [(0, (1, (.t 16)))])), (.op (some 5) none (.mv (.t 17)))]) (.seq (.seq
  (.reg [(.op (some 6) none (.mv (.c (.int .i64 0))))]) (.block 0 (.loop (.seq (.seq (.reg [(.op (some 18) none (.mv (.t 6))), (.op (some 19) none (.mv (.t 4))),
  (.op (some 20) none (.lenL (.t 19))), (.op (some 21) none (.bin .lss (.t 18) (.t 20)))]) (.cond (.t 21) .skip (.exit 0))) (.seq (.block 1 (.seq (.reg [(.op (some 24) none (.mv
  (.t 4))), (.op (some 25) none (.mv (.t 6))), (.op (some 26) none (.iad 1 (.t 24) (.t 25))), (.op (some 27) none (.ld (.t 26))), (.op (some 28) none (.cvt .u8 (.t 27))),
  (.op (some 7) none (.mv (.t 28)))]) (.seq (.seq (.reg [(.op (some 29) none (.mv (.t 6))), (.op (some 30) none (.bin .add (.t 29) (.c (.int .i64 1)))), (.op (some 31) none (.mv
  (.t 4))), (.op (some 32) none (.lenL (.t 31))), (.op (some 33) none (.bin .lss (.t 30) (.t 32)))]) (.cond (.t 33) (.reg [(.op (some 34) none (.mv (.t 7))), (.op (some 35) none
  (.mv (.t 4))), (.op (some 36) none (.mv (.t 6))), (.op (some 37) none (.bin .add (.t 36) (.c (.int .i64 1)))), (.op (some 38) none (.iad 1 (.t 35) (.t 37))), (.op (some 39) none
  (.ld (.t 38))), (.op (some 40) none (.cvt .u8 (.t 39))), (.op (some 41) none (.bin .shl (.t 40) (.c (.int .u64 4)))), (.op (some 42) none (.bin .or (.t 34) (.t 41))),
  (.op (some 7) none (.mv (.t 42)))]) .skip)) (.reg [(.op (some 43) none (.mv (.t 5))), (.op (some 44) none (.mv (.t 7))), (.op (some 45) none (.bsl 5 1 [(.int .u8 0)] [(0, (1,
  (.t 44)))])), (.op (some 46) none (.app 5 1 1 (.t 43) (.t 45))), (.op (some 5) none (.mv (.t 46)))])))) (.reg [(.op (some 22) none (.mv (.t 6))), (.op (some 23) none (.bin .add
  (.t 22) (.c (.int .i64 2)))), (.op (some 6) none (.mv (.t 23)))])))))) (.seq (.reg [(.op (some 47) none (.mv (.t 5))), (.op (some 48) none (.b2s 5 (.t 47))), (.op (some 2) none
  (.mv (.t 48))), (.op (some 3) none (.mv (.c (.bool true))))]) .ret)))))), [(.t 2), (.t 3)]⟩
def k37 : KFunc := ⟨44, (.seq (.reg [(.op (some 4) none (.mv (.c (.string (bs []))))), (.op (some 5) none (.mv (.c (.bool false))))]) (.seq (.reg [(.op (some 6) none (.mv (.c
  (.slice none 0 0))))]) (.seq (.seq (.reg [(.op (some 7) none (.mv (.c (.int .i64 0))))]) (.block 0 (.loop (.seq (.seq (.reg [(.op (some 8) none (.mv (.t 7))), (.op (some 9) none
  (.mv (.t 1))), (.op (some 10) none (.lenL (.t 9))), (.op (some 11) none (.bin .lss (.t 8) (.t 10)))]) (.cond (.t 11) .skip (.exit 0))) (.seq (.block 1 (.seq (.seq
  (.reg [(.op (some 14) none (.mv (.t 1))), (.op (some 15) none (.mv (.t 7))), (.op (some 16) none (.iad 1 (.t 14) (.t 15))), (.op (some 17) none (.ld (.t 16))),
  (.op (some 18) none (.cvt .i64 (.t 17))), (.op (some 19) none (.mv (.t 0))), (.op (some 20) none (.lenL (.t 19))), (.op (some 21) none (.bin .geq (.t 18) (.t 20))),
  (.op (some 22) none (.mv (.t 21))), (.op (some 23) (some (22, false)) (.mv (.t 0))), (.op (some 24) (some (22, false)) (.mv (.t 1))), (.op (some 25) (some (22, false)) (.mv
  (.t 7))), (.op (some 26) (some (22, false)) (.iad 1 (.t 24) (.t 25))), (.op (some 27) (some (22, false)) (.ld (.t 26))), (.op (some 28) (some (22, false)) (.iad 1 (.t 23)
  (.t 27))), (.op (some 29) (some (22, false)) (.ld (.t 28))), (.op (some 30) (some (22, false)) (.bin .eql (.t 29) (.c (.int .i64 0)))), (.op (some 31) none (.pick (.t 22) (.c
  (.bool true)) (.t 30)))]) (.cond (.t 31) (.seq (.reg [(.op (some 4) none (.mv (.c (.string (bs []))))), (.op (some 5) none (.mv (.c (.bool false))))]) .ret) .skip))
  (.reg [(.op (some 32) none (.mv (.t 6))), (.op (some 33) none (.mv (.t 0))), (.op (some 34) none (.mv (.t 1))), (.op (some 35) none (.mv (.t 7))), (.op (some 36) none (.iad 1
  (.t 34) (.t 35))), (.op (some 37) none (.ld (.t 36))), (.op (some 38) none (.cvt .i64 (.t 37))), (.op (some 39) none (.call 101 [(.t 33), (.t 38)])), (.op (some 40) none
  (.app 3 1 8 (.t 32) (.t 39))), (.op (some 6) none (.mv (.t 40)))]))) (.reg [(.op (some 12) none (.mv (.t 7))), (.op (some 13) none (.bin .add (.t 12) (.c (.int .i64 1)))),
  (.op (some 7) none (.mv (.t 13)))])))))) (.seq (.reg [(.op (some 41) none (.mv (.t 6))), (.op (some 42) none (.call 108 [(.t 41)])), (.op (some 43) none (.b2s 5 (.t 42))),
  (.op (some 4) none (.mv (.t 43))), (.op (some 5) none (.mv (.c (.bool true))))]) .ret)))), [(.t 4), (.t 5)]⟩
def k38 : KFunc := ⟨6, (.seq (.reg [(.op (some 2) none (.mv (.c (.pointer none))))]) (.seq (.reg [(.op (some 3) none (.mv (.t 0))), (.op (some 4) none (.build [(.string (bs [])),
  (.bool false)] [(0, (1, (.t 3)))])), (.op (some 5) none (.box 137 (.t 4))), (.op (some 2) none (.mv (.t 5)))]) .ret)), [(.t 2)]⟩
def k39 : KFunc := ⟨69, (.seq (.reg [(.op (some 2) none (.mv (.c (.slice none 0 0)))), (.op (some 3) none (.mv (.c (.bool false))))]) (.seq (.reg [(.op (some 9) none (.mv
  (.t 0))), (.op (some 10) none (.call 109 [(.t 9), (.c (.int .i64 1))])), (.op (some 11) none (.cvt .i64 (.t 10))), (.op (some 12) none (.bin .add (.t 11) (.c (.int .i64 1)))),
  (.op (some 4) none (.mv (.t 12)))]) (.seq (.reg [(.op (some 13) none (.mv (.t 0))), (.op (some 14) none (.mv (.t 4))), (.op (some 15) none (.bin .add (.t 14) (.c
  (.int .i64 1)))), (.op (some 16) none (.bin .quo (.t 15) (.c (.int .i64 2)))), (.op (some 17) none (.call 110 [(.t 13), (.t 16)])), (.op (some 5) none (.mv (.t 17)))]) (.seq
  (.seq (.reg [(.op (some 18) none (.mv (.t 0))), (.op (some 19) none (.call 111 [(.t 18)]))]) (.cond (.t 19) (.seq (.reg [(.op (some 2) none (.mv (.c (.slice none 0 0)))),
  (.op (some 3) none (.mv (.c (.bool false))))]) .ret) .skip)) (.seq (.reg [(.op (some 20) none (.mv (.t 4))), (.op (some 21) none (.bin .add (.t 20) (.c (.int .i64 1)))),
  (.op (some 22) none (.mks 3 [(.int .i64 0)] 8 (.c (.int .i64 0)) (.t 21))), (.op (some 6) none (.mv (.t 22)))]) (.seq (.seq (.reg [(.op (some 23) none (.mv (.t 5))),
  (.op (some 24) none (.s2b 5 (.t 23))), (.op (some 25) none (.lenL (.t 24))), (.op (some 26) none (.mv (.c (.int .i64 0))))]) (.block 0 (.loop (.seq (.reg [(.op (some 27) none
  (.bin .lss (.t 26) (.t 25)))]) (.seq (.cond (.t 27) .skip (.exit 0)) (.seq (.block 1 (.seq (.reg [(.op (some 28) none (.iad 1 (.t 24) (.t 26))), (.op (some 29) none (.ld
  (.t 28))), (.op (some 8) none (.mv (.t 29)))]) (.reg [(.op (some 30) none (.mv (.t 6))), (.op (some 31) none (.mv (.t 8))), (.op (some 32) none (.bin .and (.t 31) (.c
  (.int .u8 15)))), (.op (some 33) none (.cvt .i64 (.t 32))), (.op (some 34) none (.mv (.t 8))), (.op (some 35) none (.bin .shr (.t 34) (.c (.int .u64 4)))), (.op (some 36) none
  (.cvt .i64 (.t 35))), (.op (some 37) none (.bsl 3 2 [(.int .i64 0), (.int .i64 0)] [(0, (1, (.t 33))), (1, (1, (.t 36)))])), (.op (some 38) none (.app 3 1 8 (.t 30) (.t 37))),
  (.op (some 6) none (.mv (.t 38)))]))) (.reg [(.op (some 39) none (.bin .add (.t 26) (.c (.int .i64 1)))), (.op (some 26) none (.mv (.t 39)))]))))))) (.seq (.seq
  (.reg [(.op (some 40) none (.mv (.t 6))), (.op (some 41) none (.lenL (.t 40))), (.op (some 42) none (.mv (.t 4))), (.op (some 43) none (.bin .gtr (.t 41) (.t 42))),
  (.op (some 44) none (.mv (.t 43))), (.op (some 45) (some (44, true)) (.mv (.t 6))), (.op (some 46) (some (44, true)) (.mv (.t 4))), (.op (some 47) (some (44, true)) (.iad 1
  (.t 45) (.t 46))), (.op (some 48) (some (44, true)) (.ld (.t 47))), (.op (some 49) (some (44, true)) (.bin .neq (.t 48) (.c (.int .i64 0)))), (.op (some 50) none (.pick (.t 44)
  (.t 49) (.c (.bool false)))), (.op (some 51) none (.mv (.t 50))), (.op (some 52) (some (51, false)) (.mv (.t 6))), (.op (some 53) (some (51, false)) (.mv (.t 4))),
  (.op (some 54) (some (51, false)) (.bin .sub (.t 53) (.c (.int .i64 1)))), (.op (some 55) (some (51, false)) (.iad 1 (.t 52) (.t 54))), (.op (some 56) (some (51, false)) (.ld
  (.t 55))), (.op (some 57) (some (51, false)) (.bin .eql (.t 56) (.c (.int .i64 0)))), (.op (some 58) none (.pick (.t 51) (.c (.bool true)) (.t 57))), (.op (some 59) none (.mv
  (.t 58))), (.op (some 60) (some (59, false)) (.mv (.t 6))), (.op (some 61) (some (59, false)) (.mv (.t 4))), (.op (some 62) (some (59, false)) (.slc 3 1 (.t 60) none (some
  (.t 61)))), (.op (some 63) (some (59, false)) (.call 68 [(.t 62)])), (.op (some 64) (some (59, false)) (.un .not (.t 63))), (.op (some 65) none (.pick (.t 59) (.c (.bool true))
  (.t 64)))]) (.cond (.t 65) (.seq (.reg [(.op (some 2) none (.mv (.c (.slice none 0 0)))), (.op (some 3) none (.mv (.c (.bool false))))]) .ret) .skip)) (.seq
  (.reg [(.op (some 66) none (.mv (.t 6))), (.op (some 67) none (.mv (.t 4))), (.op (some 68) none (.slc 3 1 (.t 66) none (some (.t 67)))), (.op (some 2) none (.mv (.t 68))),
  (.op (some 3) none (.mv (.c (.bool true))))]) .ret)))))))), [(.t 2), (.t 3)]⟩
def k40 : KFunc := ⟨44, (.seq (.reg [(.op (some 2) none (.mv (.c (.string (bs [])))))]) (.seq (.reg [(.op (some 7) none (.mv (.t 0))), (.op (some 8) none (.call 42 [(.t 7)])),
  (.op (some 3) none (.mv (.t 8)))]) (.seq (.reg [(.op (some 9) none (.mv (.t 3))), (.op (some 10) none (.lenL (.t 9))), (.op (some 11) none (.bin .sub (.t 10) (.c
  (.int .i64 1)))), (.op (some 12) none (.cvt .u8 (.t 11))), (.op (some 13) none (.bsl 5 1 [(.int .u8 0)] [(0, (1, (.t 12)))])), (.op (some 4) none (.mv (.t 13)))]) (.seq (.seq
  (.reg [(.op (some 5) none (.mv (.c (.int .i64 0))))]) (.block 0 (.loop (.seq (.seq (.reg [(.op (some 14) none (.mv (.t 5))), (.op (some 15) none (.mv (.t 3))),
  (.op (some 16) none (.lenL (.t 15))), (.op (some 17) none (.bin .lss (.t 14) (.t 16)))]) (.cond (.t 17) .skip (.exit 0))) (.seq (.block 1 (.seq (.reg [(.op (some 20) none (.mv
  (.t 3))), (.op (some 21) none (.mv (.t 5))), (.op (some 22) none (.iad 1 (.t 20) (.t 21))), (.op (some 23) none (.ld (.t 22))), (.op (some 6) none (.mv (.t 23)))]) (.seq (.seq
  (.reg [(.op (some 24) none (.mv (.t 5))), (.op (some 25) none (.bin .add (.t 24) (.c (.int .i64 1)))), (.op (some 26) none (.mv (.t 3))), (.op (some 27) none (.lenL (.t 26))),
  (.op (some 28) none (.bin .lss (.t 25) (.t 27)))]) (.cond (.t 28) (.reg [(.op (some 29) none (.mv (.t 6))), (.op (some 30) none (.mv (.t 3))), (.op (some 31) none (.mv (.t 5))),
  (.op (some 32) none (.bin .add (.t 31) (.c (.int .i64 1)))), (.op (some 33) none (.iad 1 (.t 30) (.t 32))), (.op (some 34) none (.ld (.t 33))), (.op (some 35) none (.bin .mul
  (.c (.int .i64 16)) (.t 34))), (.op (some 36) none (.bin .add (.t 29) (.t 35))), (.op (some 6) none (.mv (.t 36)))]) .skip)) (.reg [(.op (some 37) none (.mv (.t 4))),
  (.op (some 38) none (.mv (.t 6))), (.op (some 39) none (.cvt .u8 (.t 38))), (.op (some 40) none (.bsl 5 1 [(.int .u8 0)] [(0, (1, (.t 39)))])), (.op (some 41) none (.app 5 1 1
  (.t 37) (.t 40))), (.op (some 4) none (.mv (.t 41)))])))) (.reg [(.op (some 18) none (.mv (.t 5))), (.op (some 19) none (.bin .add (.t 18) (.c (.int .i64 2)))),
  (.op (some 5) none (.mv (.t 19)))])))))) (.seq (.reg [(.op (some 42) none (.mv (.t 4))), (.op (some 43) none (.b2s 5 (.t 42))), (.op (some 2) none (.mv (.t 43)))]) .ret))))),
  [(.t 2)]⟩
def k41 : KFunc := ⟨26, (.seq (.reg [(.op (some 4) none (.mv (.c (.bool false))))]) (.seq (.seq (.reg [(.op (some 6) none (.mv (.t 0))), (.op (some 7) none (.lenL (.t 6))),
  (.op (some 8) none (.mv (.t 1))), (.op (some 9) none (.lenL (.t 8))), (.op (some 10) none (.bin .neq (.t 7) (.t 9)))]) (.cond (.t 10) (.seq (.reg [(.op (some 4) none (.mv (.c
  (.bool false))))]) .ret) .skip)) (.seq (.seq (.reg [(.op (some 11) none (.mv (.t 0))), (.op (some 12) none (.lenL (.t 11))), (.op (some 13) none (.mv (.c (.int .i64 0))))])
  (.block 0 (.loop (.seq (.reg [(.op (some 14) none (.bin .lss (.t 13) (.t 12)))]) (.seq (.cond (.t 14) .skip (.exit 0)) (.seq (.block 1 (.seq (.reg [(.op (some 15) none (.mv
  (.t 13))), (.op (some 5) none (.mv (.t 15)))]) (.seq (.reg [(.op (some 16) none (.mv (.t 0))), (.op (some 17) none (.mv (.t 5))), (.op (some 18) none (.iad 1 (.t 16) (.t 17))),
  (.op (some 19) none (.ld (.t 18))), (.op (some 20) none (.mv (.t 1))), (.op (some 21) none (.mv (.t 5))), (.op (some 22) none (.iad 1 (.t 20) (.t 21))), (.op (some 23) none (.ld
  (.t 22))), (.op (some 24) none (.bin .neq (.t 19) (.t 23)))]) (.cond (.t 24) (.seq (.reg [(.op (some 4) none (.mv (.c (.bool false))))]) .ret) .skip))))
  (.reg [(.op (some 25) none (.bin .add (.t 13) (.c (.int .i64 1)))), (.op (some 13) none (.mv (.t 25)))]))))))) (.seq (.reg [(.op (some 4) none (.mv (.c
  (.bool true))))]) .ret)))), [(.t 4)]⟩
def k42 : KFunc := ⟨21, (.seq (.reg [(.op (some 2) none (.mv (.c (.slice none 0 0))))]) (.seq (.reg [(.op (some 4) none (.mv (.t 0))), (.op (some 5) none (.lenL (.t 4))),
  (.op (some 3) none (.mv (.t 5)))]) (.seq (.block 0 (.loop (.seq (.seq (.reg [(.op (some 6) none (.mv (.t 3))), (.op (some 7) none (.bin .gtr (.t 6) (.c (.int .i64 0)))),
  (.op (some 8) none (.mv (.t 7))), (.op (some 9) (some (8, true)) (.mv (.t 0))), (.op (some 10) (some (8, true)) (.mv (.t 3))), (.op (some 11) (some (8, true)) (.bin .sub (.t 10)
  (.c (.int .i64 1)))), (.op (some 12) (some (8, true)) (.iad 1 (.t 9) (.t 11))), (.op (some 13) (some (8, true)) (.ld (.t 12))), (.op (some 14) (some (8, true)) (.bin .eql
  (.t 13) (.c (.int .i64 0)))), (.op (some 15) none (.pick (.t 8) (.t 14) (.c (.bool false))))]) (.cond (.t 15) .skip (.exit 0))) (.block 1 (.reg [(.op (some 16) none (.mv
  (.t 3))), (.op (some 17) none (.bin .sub (.t 16) (.c (.int .i64 1)))), (.op (some 3) none (.mv (.t 17)))]))))) (.seq (.reg [(.op (some 18) none (.mv (.t 0))),
  (.op (some 19) none (.mv (.t 3))), (.op (some 20) none (.slc 3 1 (.t 18) none (some (.t 19)))), (.op (some 2) none (.mv (.t 20)))]) .ret)))), [(.t 2)]⟩
def k43 : KFunc := ⟨12, (.seq (.reg [(.op (some 2) none (.mv (.c (.string (bs [])))))]) (.seq (.seq (.reg [(.op (some 3) none (.mv (.t 0))), (.op (some 4) none
  (.call 111 [(.t 3)]))]) (.cond (.t 4) (.seq (.reg [(.op (some 2) none (.mv (.c (.string (bs [])))))]) .ret) .skip)) (.seq (.reg [(.op (some 5) none (.mv (.t 0))),
  (.op (some 6) none (.mv (.t 0))), (.op (some 7) none (.nck (.t 6))), (.op (some 8) none (.fad 0 (.t 7))), (.op (some 9) none (.ld (.t 8))), (.op (some 10) none (.lenS (.t 9))),
  (.op (some 11) none (.call 110 [(.t 5), (.t 10)])), (.op (some 2) none (.mv (.t 11)))]) .ret))), [(.t 2)]⟩
def k44 : KFunc := ⟨57, (.seq (.reg [(.op (some 2) none (.mv (.c (.slice none 0 0)))), (.op (some 3) none (.mv (.c (.int .i64 0))))]) (.seq (.seq (.reg [(.op (some 9) none (.mv
  (.t 0))), (.op (some 10) none (.bin .eql (.t 9) (.c (.string (bs [])))))]) (.cond (.t 10) (.seq (.reg [(.op (some 2) none (.mv (.c (.slice none 0 0)))), (.op (some 3) none (.mv
  (.c (.int .i64 0))))]) .ret) .skip)) (.seq (.reg [(.op (some 11) none (.mv (.t 0))), (.op (some 12) none (.idS (.t 11) (.c (.int .i64 0)))), (.op (some 13) none (.cvt .i64
  (.t 12))), (.op (some 14) none (.bin .add (.t 13) (.c (.int .i64 1)))), (.op (some 4) none (.mv (.t 14)))]) (.seq (.reg [(.op (some 15) none (.mv (.t 4))), (.op (some 16) none
  (.bin .add (.t 15) (.c (.int .i64 1)))), (.op (some 17) none (.bin .quo (.t 16) (.c (.int .i64 2)))), (.op (some 18) none (.bin .add (.c (.int .i64 1)) (.t 17))),
  (.op (some 5) none (.mv (.t 18)))]) (.seq (.seq (.reg [(.op (some 19) none (.mv (.t 5))), (.op (some 20) none (.mv (.t 0))), (.op (some 21) none (.lenS (.t 20))),
  (.op (some 22) none (.bin .gtr (.t 19) (.t 21)))]) (.cond (.t 22) (.seq (.reg [(.op (some 2) none (.mv (.c (.slice none 0 0)))), (.op (some 3) none (.mv (.c
  (.int .i64 0))))]) .ret) .skip)) (.seq (.reg [(.op (some 6) none (.mv (.c (.slice none 0 0))))]) (.seq (.seq (.reg [(.op (some 7) none (.mv (.c (.int .i64 0))))]) (.block 0
  (.loop (.seq (.seq (.reg [(.op (some 23) none (.mv (.t 7))), (.op (some 24) none (.mv (.t 4))), (.op (some 25) none (.bin .lss (.t 23) (.t 24)))]) (.cond (.t 25) .skip
  (.exit 0))) (.seq (.block 1 (.seq (.reg [(.op (some 28) none (.mv (.t 0))), (.op (some 29) none (.mv (.t 7))), (.op (some 30) none (.bin .quo (.t 29) (.c (.int .i64 2)))),
  (.op (some 31) none (.bin .add (.c (.int .i64 1)) (.t 30))), (.op (some 32) none (.idS (.t 28) (.t 31))), (.op (some 33) none (.cvt .i64 (.t 32))), (.op (some 8) none (.mv
  (.t 33)))]) (.seq (.seq (.reg [(.op (some 34) none (.mv (.t 7))), (.op (some 35) none (.bin .rem (.t 34) (.c (.int .i64 2)))), (.op (some 36) none (.bin .eql (.t 35) (.c
  (.int .i64 1))))]) (.cond (.t 36) (.reg [(.op (some 37) none (.mv (.t 8))), (.op (some 38) none (.bin .quo (.t 37) (.c (.int .i64 16)))), (.op (some 8) none (.mv
  (.t 38)))]) .skip)) (.reg [(.op (some 39) none (.mv (.t 6))), (.op (some 40) none (.mv (.t 8))), (.op (some 41) none (.bin .rem (.t 40) (.c (.int .i64 16)))),
  (.op (some 42) none (.bsl 3 1 [(.int .i64 0)] [(0, (1, (.t 41)))])), (.op (some 43) none (.app 3 1 8 (.t 39) (.t 42))), (.op (some 6) none (.mv (.t 43)))]))))
  (.reg [(.op (some 26) none (.mv (.t 7))), (.op (some 27) none (.bin .add (.t 26) (.c (.int .i64 1)))), (.op (some 7) none (.mv (.t 27)))])))))) (.seq (.seq
  (.reg [(.op (some 44) none (.mv (.t 6))), (.op (some 45) none (.call 32 [(.t 44)])), (.op (some 46) none (.un .not (.t 45))), (.op (some 47) none (.mv (.t 46))),
  (.op (some 48) (some (47, false)) (.mv (.t 6))), (.op (some 50) (some (47, false)) (.mv (.t 0))), (.op (some 51) (some (47, false)) (.mv (.t 5))), (.op (some 52) (some (47,
  false)) (.slS (.t 50) none (some (.t 51)))), (.op (some 49) (some (47, false)) (.call 40 [(.t 48)])), (.op (some 53) (some (47, false)) (.bin .neq (.t 49) (.t 52))),
  (.op (some 54) none (.pick (.t 47) (.c (.bool true)) (.t 53)))]) (.cond (.t 54) (.seq (.reg [(.op (some 2) none (.mv (.c (.slice none 0 0)))), (.op (some 3) none (.mv (.c
  (.int .i64 0))))]) .ret) .skip)) (.seq (.reg [(.op (some 55) none (.mv (.t 6))), (.op (some 56) none (.mv (.t 5))), (.op (some 2) none (.mv (.t 55))), (.op (some 3) none (.mv
  (.t 56)))]) .ret))))))))), [(.t 2), (.t 3)]⟩
def k66 : KFunc := ⟨60, (.seq (.reg [(.op (some 0) none (.mv (.c (.bool false))))]) (.seq (.reg [(.op (some 6) none (.bsl 3 3 [(.int .i64 0), (.int .i64 0), (.int .i64 0)] [(0,
  (1, (.c (.int .i64 5)))), (1, (1, (.c (.int .i64 2)))), (2, (1, (.c (.int .i64 1))))])), (.op (some 7) none (.call 75 [(.t 6)])), (.op (some 5) none (.mv (.t 7))),
  (.op (some 8) none (.xt (.t 5) 0)), (.op (some 9) none (.xt (.t 5) 1)), (.op (some 1) none (.mv (.t 8))), (.op (some 2) none (.mv (.t 9)))]) (.seq (.reg [(.op (some 11) none
  (.mv (.t 1))), (.op (some 12) none (.call 67 [(.t 11)])), (.op (some 10) none (.mv (.t 12))), (.op (some 13) none (.xt (.t 10) 0)), (.op (some 14) none (.xt (.t 10) 1)),
  (.op (some 3) none (.mv (.t 13))), (.op (some 4) none (.mv (.t 14)))]) (.seq (.reg [(.op (some 15) none (.mv (.t 2))), (.op (some 16) none (.mv (.t 15))),
  (.op (some 17) (some (16, true)) (.mv (.t 4))), (.op (some 18) none (.pick (.t 16) (.t 17) (.c (.bool false)))), (.op (some 19) none (.mv (.t 18))), (.op (some 20) (some (19,
  true)) (.mv (.t 1))), (.op (some 21) (some (19, true)) (.lenL (.t 20))), (.op (some 22) (some (19, true)) (.bin .eql (.t 21) (.c (.int .i64 3)))), (.op (some 23) none (.pick
  (.t 19) (.t 22) (.c (.bool false)))), (.op (some 24) none (.mv (.t 23))), (.op (some 25) (some (24, true)) (.mv (.t 1))), (.op (some 26) (some (24, true)) (.iad 1 (.t 25) (.c
  (.int .i64 0)))), (.op (some 27) (some (24, true)) (.ld (.t 26))), (.op (some 28) (some (24, true)) (.bin .eql (.t 27) (.c (.int .i64 1)))), (.op (some 29) none (.pick (.t 24)
  (.t 28) (.c (.bool false)))), (.op (some 30) none (.mv (.t 29))), (.op (some 31) (some (30, true)) (.mv (.t 1))), (.op (some 32) (some (30, true)) (.iad 1 (.t 31) (.c
  (.int .i64 1)))), (.op (some 33) (some (30, true)) (.ld (.t 32))), (.op (some 34) (some (30, true)) (.bin .eql (.t 33) (.c (.int .i64 2)))), (.op (some 35) none (.pick (.t 30)
  (.t 34) (.c (.bool false)))), (.op (some 36) none (.mv (.t 35))), (.op (some 37) (some (36, true)) (.mv (.t 1))), (.op (some 38) (some (36, true)) (.iad 1 (.t 37) (.c
  (.int .i64 2)))), (.op (some 39) (some (36, true)) (.ld (.t 38))), (.op (some 40) (some (36, true)) (.bin .eql (.t 39) (.c (.int .i64 2)))), (.op (some 41) none (.pick (.t 36)
  (.t 40) (.c (.bool false)))), (.op (some 42) none (.mv (.t 41))), (.op (some 43) (some (42, true)) (.mv (.t 3))), (.op (some 44) (some (42, true)) (.iad 1 (.t 43) (.c
  (.int .i64 0)))), (.op (some 45) (some (42, true)) (.ld (.t 44))), (.op (some 46) (some (42, true)) (.bin .eql (.t 45) (.c (.int .i64 0)))), (.op (some 47) none (.pick (.t 42)
  (.t 46) (.c (.bool false)))), (.op (some 48) none (.mv (.t 47))), (.op (some 49) (some (48, true)) (.mv (.t 3))), (.op (some 50) (some (48, true)) (.iad 1 (.t 49) (.c
  (.int .i64 1)))), (.op (some 51) (some (48, true)) (.ld (.t 50))), (.op (some 52) (some (48, true)) (.bin .eql (.t 51) (.c (.int .i64 2)))), (.op (some 53) none (.pick (.t 48)
  (.t 52) (.c (.bool false)))), (.op (some 54) none (.mv (.t 53))), (.op (some 55) (some (54, true)) (.mv (.t 3))), (.op (some 56) (some (54, true)) (.iad 1 (.t 55) (.c
  (.int .i64 2)))), (.op (some 57) (some (54, true)) (.ld (.t 56))), (.op (some 58) (some (54, true)) (.bin .eql (.t 57) (.c (.int .i64 3)))), (.op (some 59) none (.pick (.t 54)
  (.t 58) (.c (.bool false)))), (.op (some 0) none (.mv (.t 59)))]) .ret)))), [(.t 0)]⟩
def k67 : KFunc := ⟨39, (.seq (.reg [(.op (some 2) none (.mv (.c (.slice none 0 0)))), (.op (some 3) none (.mv (.c (.bool false))))]) (.seq (.seq (.reg [(.op (some 9) none (.mv
  (.t 0))), (.op (some 10) none (.call 68 [(.t 9)])), (.op (some 11) none (.un .not (.t 10)))]) (.cond (.t 11) (.seq (.reg [(.op (some 2) none (.mv (.c (.slice none 0 0)))),
  (.op (some 3) none (.mv (.c (.bool false))))]) .ret) .skip)) (.seq (.reg [(.op (some 12) none (.mv (.t 0))), (.op (some 13) none (.lenL (.t 12))), (.op (some 14) none
  (.mks 3 [(.int .i64 0)] 8 (.t 13) (.t 13))), (.op (some 4) none (.mv (.t 14)))]) (.seq (.reg [(.op (some 5) none (.mv (.c (.int .i64 0))))]) (.seq (.seq
  (.reg [(.op (some 6) none (.mv (.c (.int .i64 1))))]) (.block 0 (.loop (.seq (.seq (.reg [(.op (some 15) none (.mv (.t 6))), (.op (some 16) none (.bin .leq (.t 15) (.c
  (.int .i64 11))))]) (.cond (.t 16) .skip (.exit 0))) (.seq (.block 1 (.seq (.seq (.reg [(.op (some 19) none (.mv (.t 0))), (.op (some 20) none (.lenL (.t 19))),
  (.op (some 21) none (.mv (.c (.int .i64 0))))]) (.block 2 (.loop (.seq (.reg [(.op (some 22) none (.bin .lss (.t 21) (.t 20)))]) (.seq (.cond (.t 22) .skip (.exit 2)) (.seq
  (.block 3 (.seq (.reg [(.op (some 23) none (.mv (.t 21))), (.op (some 24) none (.iad 1 (.t 19) (.t 21))), (.op (some 25) none (.ld (.t 24))), (.op (some 7) none (.mv (.t 23))),
  (.op (some 8) none (.mv (.t 25)))]) (.seq (.reg [(.op (some 26) none (.mv (.t 8))), (.op (some 27) none (.mv (.t 6))), (.op (some 28) none (.bin .eql (.t 26) (.t 27)))]) (.cond
  (.t 28) (.seq (.reg [(.op (some 29) none (.mv (.t 4))), (.op (some 30) none (.mv (.t 7))), (.op (some 31) none (.mv (.t 5))), (.op (some 32) none (.iad 1 (.t 29) (.t 30))),
  (.op none none (.st (.t 32) (.t 31)))]) (.reg [(.op (some 33) none (.mv (.t 5))), (.op (some 34) none (.bin .add (.t 33) (.c (.int .i64 1)))), (.op (some 5) none (.mv
  (.t 34)))])) .skip)))) (.reg [(.op (some 35) none (.bin .add (.t 21) (.c (.int .i64 1)))), (.op (some 21) none (.mv (.t 35)))]))))))) (.reg [(.op (some 36) none (.mv (.t 5))),
  (.op (some 37) none (.bin .shl (.t 36) (.c (.int .u64 1)))), (.op (some 5) none (.mv (.t 37)))]))) (.reg [(.op (some 17) none (.mv (.t 6))), (.op (some 18) none (.bin .add
  (.t 17) (.c (.int .i64 1)))), (.op (some 6) none (.mv (.t 18)))])))))) (.seq (.reg [(.op (some 38) none (.mv (.t 4))), (.op (some 2) none (.mv (.t 38))), (.op (some 3) none (.mv
  (.c (.bool true))))]) .ret)))))), [(.t 2), (.t 3)]⟩
def k68 : KFunc := ⟨38, (.seq (.reg [(.op (some 2) none (.mv (.c (.bool false))))]) (.seq (.seq (.reg [(.op (some 8) none (.mv (.t 0))), (.op (some 9) none (.call 130 [(.t 8)])),
  (.op (some 10) none (.un .not (.t 9)))]) (.cond (.t 10) (.seq (.reg [(.op (some 2) none (.mv (.c (.bool false))))]) .ret) .skip)) (.seq (.reg [(.op (some 3) none (.mv (.c
  (.int .i64 2048)))), (.op (some 4) none (.mv (.c (.int .i64 0)))), (.op (some 5) none (.mv (.c (.bool false))))]) (.seq (.seq (.reg [(.op (some 11) none (.mv (.t 0))),
  (.op (some 12) none (.lenL (.t 11))), (.op (some 13) none (.mv (.c (.int .i64 0))))]) (.block 0 (.loop (.seq (.reg [(.op (some 14) none (.bin .lss (.t 13) (.t 12)))]) (.seq
  (.cond (.t 14) .skip (.exit 0)) (.seq (.block 1 (.seq (.reg [(.op (some 15) none (.iad 1 (.t 11) (.t 13))), (.op (some 16) none (.ld (.t 15))), (.op (some 7) none (.mv
  (.t 16)))]) (.seq (.reg [(.op (some 17) none (.mv (.t 7))), (.op (some 18) none (.bin .gtr (.t 17) (.c (.int .i64 0))))]) (.cond (.t 18) (.seq (.reg [(.op (some 19) none (.mv
  (.t 3))), (.op (some 20) none (.mv (.t 7))), (.op (some 21) none (.bin .sub (.c (.int .i64 11)) (.t 20))), (.op (some 22) none (.bin .shl (.c (.int .i64 1)) (.t 21))),
  (.op (some 23) none (.bin .sub (.t 19) (.t 22))), (.op (some 3) none (.mv (.t 23)))]) (.seq (.reg [(.op (some 24) none (.mv (.t 4))), (.op (some 25) none (.bin .add (.t 24) (.c
  (.int .i64 1)))), (.op (some 4) none (.mv (.t 25)))]) (.reg [(.op (some 26) none (.mv (.t 7))), (.op (some 27) none (.bin .eql (.t 26) (.c (.int .i64 1)))), (.op (some 5) none
  (.mv (.t 27)))]))) .skip)))) (.reg [(.op (some 28) none (.bin .add (.t 13) (.c (.int .i64 1)))), (.op (some 13) none (.mv (.t 28)))]))))))) (.seq (.reg [(.op (some 29) none (.mv
  (.t 3))), (.op (some 30) none (.bin .eql (.t 29) (.c (.int .i64 0)))), (.op (some 31) none (.mv (.t 30))), (.op (some 32) (some (31, false)) (.mv (.t 4))),
  (.op (some 33) (some (31, false)) (.bin .eql (.t 32) (.c (.int .i64 1)))), (.op (some 34) (some (31, false)) (.mv (.t 33))), (.op (some 35) (some (34, true)) (.mv (.t 5))),
  (.op (some 36) (some (31, false)) (.pick (.t 34) (.t 35) (.c (.bool false)))), (.op (some 37) none (.pick (.t 31) (.c (.bool true)) (.t 36))), (.op (some 2) none (.mv
  (.t 37)))]) .ret))))), [(.t 2)]⟩
def k69 : KFunc := ⟨26, (.seq (.reg [(.op (some 4) none (.mv (.c (.bool false))))]) (.seq (.seq (.reg [(.op (some 6) none (.mv (.t 0))), (.op (some 7) none (.lenL (.t 6))),
  (.op (some 8) none (.mv (.t 1))), (.op (some 9) none (.lenL (.t 8))), (.op (some 10) none (.bin .neq (.t 7) (.t 9)))]) (.cond (.t 10) (.seq (.reg [(.op (some 4) none (.mv (.c
  (.bool false))))]) .ret) .skip)) (.seq (.seq (.reg [(.op (some 11) none (.mv (.t 0))), (.op (some 12) none (.lenL (.t 11))), (.op (some 13) none (.mv (.c (.int .i64 0))))])
  (.block 0 (.loop (.seq (.reg [(.op (some 14) none (.bin .lss (.t 13) (.t 12)))]) (.seq (.cond (.t 14) .skip (.exit 0)) (.seq (.block 1 (.seq (.reg [(.op (some 15) none (.mv
  (.t 13))), (.op (some 5) none (.mv (.t 15)))]) (.seq (.reg [(.op (some 16) none (.mv (.t 0))), (.op (some 17) none (.mv (.t 5))), (.op (some 18) none (.iad 1 (.t 16) (.t 17))),
  (.op (some 19) none (.ld (.t 18))), (.op (some 20) none (.mv (.t 1))), (.op (some 21) none (.mv (.t 5))), (.op (some 22) none (.iad 1 (.t 20) (.t 21))), (.op (some 23) none (.ld
  (.t 22))), (.op (some 24) none (.bin .neq (.t 19) (.t 23)))]) (.cond (.t 24) (.seq (.reg [(.op (some 4) none (.mv (.c (.bool false))))]) .ret) .skip))))
  (.reg [(.op (some 25) none (.bin .add (.t 13) (.c (.int .i64 1)))), (.op (some 13) none (.mv (.t 25)))]))))))) (.seq (.reg [(.op (some 4) none (.mv (.c
  (.bool true))))]) .ret)))), [(.t 4)]⟩
def k70 : KFunc := ⟨79, (.seq (.reg [(.op (some 2) none (.mv (.c (.slice none 0 0))))]) (.seq (.reg [(.op (some 7) none (.mv (.t 0))), (.op (some 8) none (.lenL (.t 7))),
  (.op (some 9) none (.mks 3 [(.int .i64 0)] 8 (.t 8) (.t 8))), (.op (some 3) none (.mv (.t 9)))]) (.seq (.seq (.reg [(.op (some 4) none (.mv (.c (.int .i64 0))))]) (.block 0
  (.loop (.seq (.seq (.reg [(.op (some 10) none (.mv (.t 4))), (.op (some 11) none (.mv (.t 0))), (.op (some 12) none (.lenL (.t 11))), (.op (some 13) none (.bin .lss (.t 10)
  (.t 12)))]) (.cond (.t 13) .skip (.exit 0))) (.seq (.block 1 (.seq (.seq (.reg [(.op (some 16) none (.mv (.t 0))), (.op (some 17) none (.mv (.t 4))), (.op (some 18) none (.iad 1
  (.t 16) (.t 17))), (.op (some 19) none (.ld (.t 18))), (.op (some 20) none (.bin .eql (.t 19) (.c (.int .i64 0))))]) (.cond (.t 20) (.exit 1) .skip)) (.seq
  (.reg [(.op (some 5) none (.mv (.c (.int .i64 0))))]) (.seq (.seq (.reg [(.op (some 6) none (.mv (.c (.int .i64 0))))]) (.block 2 (.loop (.seq (.seq (.reg [(.op (some 21) none
  (.mv (.t 6))), (.op (some 22) none (.mv (.t 0))), (.op (some 23) none (.lenL (.t 22))), (.op (some 24) none (.bin .lss (.t 21) (.t 23)))]) (.cond (.t 24) .skip (.exit 2))) (.seq
  (.block 3 (.seq (.reg [(.op (some 27) none (.mv (.t 0))), (.op (some 28) none (.mv (.t 6))), (.op (some 29) none (.iad 1 (.t 27) (.t 28))), (.op (some 30) none (.ld (.t 29))),
  (.op (some 31) none (.bin .gtr (.t 30) (.c (.int .i64 0)))), (.op (some 32) none (.mv (.t 31))), (.op (some 33) (some (32, true)) (.mv (.t 0))), (.op (some 34) (some (32, true))
  (.mv (.t 6))), (.op (some 35) (some (32, true)) (.iad 1 (.t 33) (.t 34))), (.op (some 36) (some (32, true)) (.ld (.t 35))), (.op (some 37) (some (32, true)) (.mv (.t 0))),
  (.op (some 38) (some (32, true)) (.mv (.t 4))), (.op (some 39) (some (32, true)) (.iad 1 (.t 37) (.t 38))), (.op (some 40) (some (32, true)) (.ld (.t 39))),
  (.op (some 41) (some (32, true)) (.bin .lss (.t 36) (.t 40))), (.op (some 42) (some (32, true)) (.mv (.t 41))), (.op (some 43) (some (42, false)) (.mv (.t 0))),
  (.op (some 44) (some (42, false)) (.mv (.t 6))), (.op (some 45) (some (42, false)) (.iad 1 (.t 43) (.t 44))), (.op (some 46) (some (42, false)) (.ld (.t 45))),
  (.op (some 47) (some (42, false)) (.mv (.t 0))), (.op (some 48) (some (42, false)) (.mv (.t 4))), (.op (some 49) (some (42, false)) (.iad 1 (.t 47) (.t 48))),
  (.op (some 50) (some (42, false)) (.ld (.t 49))), (.op (some 51) (some (42, false)) (.bin .eql (.t 46) (.t 50))), (.op (some 52) (some (42, false)) (.mv (.t 51))),
  (.op (some 53) (some (52, true)) (.mv (.t 6))), (.op (some 54) (some (52, true)) (.mv (.t 4))), (.op (some 55) (some (52, true)) (.bin .lss (.t 53) (.t 54))),
  (.op (some 56) (some (42, false)) (.pick (.t 52) (.t 55) (.c (.bool false)))), (.op (some 57) (some (32, true)) (.pick (.t 42) (.c (.bool true)) (.t 56))), (.op (some 58) none
  (.pick (.t 32) (.t 57) (.c (.bool false))))]) (.cond (.t 58) (.reg [(.op (some 59) none (.mv (.t 5))), (.op (some 60) none (.mv (.t 0))), (.op (some 61) none (.mv (.t 6))),
  (.op (some 62) none (.iad 1 (.t 60) (.t 61))), (.op (some 63) none (.ld (.t 62))), (.op (some 64) none (.bin .sub (.c (.int .i64 11)) (.t 63))), (.op (some 65) none
  (.call 95 [(.t 64)])), (.op (some 66) none (.bin .add (.t 59) (.t 65))), (.op (some 5) none (.mv (.t 66)))]) .skip))) (.reg [(.op (some 25) none (.mv (.t 6))),
  (.op (some 26) none (.bin .add (.t 25) (.c (.int .i64 1)))), (.op (some 6) none (.mv (.t 26)))])))))) (.reg [(.op (some 67) none (.mv (.t 3))), (.op (some 68) none (.mv
  (.t 4))), (.op (some 69) none (.mv (.t 5))), (.op (some 70) none (.mv (.t 0))), (.op (some 71) none (.mv (.t 4))), (.op (some 72) none (.iad 1 (.t 70) (.t 71))),
  (.op (some 73) none (.ld (.t 72))), (.op (some 74) none (.bin .sub (.c (.int .i64 11)) (.t 73))), (.op (some 75) none (.call 95 [(.t 74)])), (.op (some 76) none (.bin .quo
  (.t 69) (.t 75))), (.op (some 77) none (.iad 1 (.t 67) (.t 68))), (.op none none (.st (.t 77) (.t 76)))]))))) (.reg [(.op (some 14) none (.mv (.t 4))), (.op (some 15) none
  (.bin .add (.t 14) (.c (.int .i64 1)))), (.op (some 4) none (.mv (.t 15)))])))))) (.seq (.reg [(.op (some 78) none (.mv (.t 3))), (.op (some 2) none (.mv (.t 78)))]) .ret)))),
  [(.t 2)]⟩
def k71 : KFunc := ⟨50, (.seq (.reg [(.op (some 4) none (.mv (.c (.int .i64 0)))), (.op (some 5) none (.mv (.c (.bool false))))]) (.seq (.seq (.reg [(.op (some 9) none (.mv
  (.t 0))), (.op (some 10) none (.call 131 [(.t 9)])), (.op (some 11) none (.un .not (.t 10))), (.op (some 12) none (.mv (.t 11))), (.op (some 13) (some (12, false)) (.mv
  (.t 1))), (.op (some 14) (some (12, false)) (.lenL (.t 13))), (.op (some 15) (some (12, false)) (.mv (.t 0))), (.op (some 16) (some (12, false)) (.lenL (.t 15))),
  (.op (some 17) (some (12, false)) (.bin .lss (.t 14) (.t 16))), (.op (some 18) none (.pick (.t 12) (.c (.bool true)) (.t 17))), (.op (some 19) none (.mv (.t 18))),
  (.op (some 20) (some (19, false)) (.mv (.t 1))), (.op (some 21) (some (19, false)) (.call 130 [(.t 20)])), (.op (some 22) (some (19, false)) (.un .not (.t 21))),
  (.op (some 23) none (.pick (.t 19) (.c (.bool true)) (.t 22)))]) (.cond (.t 23) (.seq (.reg [(.op (some 4) none (.mv (.c (.int .i64 0)))), (.op (some 5) none (.mv (.c
  (.bool false))))]) .ret) .skip)) (.seq (.reg [(.op (some 6) none (.mv (.c (.int .i64 0))))]) (.seq (.seq (.reg [(.op (some 24) none (.mv (.t 0))), (.op (some 25) none (.lenL
  (.t 24))), (.op (some 26) none (.mv (.c (.int .i64 0))))]) (.block 0 (.loop (.seq (.reg [(.op (some 27) none (.bin .lss (.t 26) (.t 25)))]) (.seq (.cond (.t 27) .skip (.exit 0))
  (.seq (.block 1 (.seq (.reg [(.op (some 28) none (.mv (.t 26))), (.op (some 29) none (.iad 1 (.t 24) (.t 26))), (.op (some 30) none (.ld (.t 29))), (.op (some 7) none (.mv
  (.t 28))), (.op (some 8) none (.mv (.t 30)))]) (.seq (.seq (.reg [(.op (some 31) none (.mv (.t 8))), (.op (some 32) none (.bin .gtr (.t 31) (.c (.int .i64 0)))),
  (.op (some 33) none (.mv (.t 32))), (.op (some 34) (some (33, true)) (.mv (.t 1))), (.op (some 35) (some (33, true)) (.mv (.t 7))), (.op (some 36) (some (33, true)) (.iad 1
  (.t 34) (.t 35))), (.op (some 37) (some (33, true)) (.ld (.t 36))), (.op (some 38) (some (33, true)) (.bin .eql (.t 37) (.c (.int .i64 0)))), (.op (some 39) none (.pick (.t 33)
  (.t 38) (.c (.bool false))))]) (.cond (.t 39) (.seq (.reg [(.op (some 4) none (.mv (.c (.int .i64 0)))), (.op (some 5) none (.mv (.c (.bool false))))]) .ret) .skip))
  (.reg [(.op (some 40) none (.mv (.t 6))), (.op (some 41) none (.mv (.t 8))), (.op (some 42) none (.mv (.t 1))), (.op (some 43) none (.mv (.t 7))), (.op (some 44) none (.iad 1
  (.t 42) (.t 43))), (.op (some 45) none (.ld (.t 44))), (.op (some 46) none (.bin .mul (.t 41) (.t 45))), (.op (some 47) none (.bin .add (.t 40) (.t 46))), (.op (some 6) none
  (.mv (.t 47)))])))) (.reg [(.op (some 48) none (.bin .add (.t 26) (.c (.int .i64 1)))), (.op (some 26) none (.mv (.t 48)))]))))))) (.seq (.reg [(.op (some 49) none (.mv
  (.t 6))), (.op (some 4) none (.mv (.t 49))), (.op (some 5) none (.mv (.c (.bool true))))]) .ret))))), [(.t 4), (.t 5)]⟩
def k72 : KFunc := ⟨37, (.seq (.reg [(.op (some 2) none (.mv (.c (.bool false))))]) (.seq (.reg [(.op (some 3) none (.mv (.c (.bool false))))]) (.seq (.seq
  (.reg [(.op (some 4) none (.mv (.c (.int .i64 0))))]) (.block 0 (.loop (.seq (.seq (.reg [(.op (some 5) none (.mv (.t 4))), (.op (some 6) none (.mv (.t 0))), (.op (some 7) none
  (.lenL (.t 6))), (.op (some 8) none (.bin .lss (.t 5) (.t 7)))]) (.cond (.t 8) .skip (.exit 0))) (.seq (.block 1 (.seq (.seq (.reg [(.op (some 11) none (.mv (.t 0))),
  (.op (some 12) none (.mv (.t 4))), (.op (some 13) none (.iad 1 (.t 11) (.t 12))), (.op (some 14) none (.ld (.t 13))), (.op (some 15) none (.bin .lss (.t 14) (.c
  (.int .i64 0)))), (.op (some 16) none (.mv (.t 15))), (.op (some 17) (some (16, false)) (.mv (.t 0))), (.op (some 18) (some (16, false)) (.mv (.t 4))), (.op (some 19) (some (16,
  false)) (.iad 1 (.t 17) (.t 18))), (.op (some 20) (some (16, false)) (.ld (.t 19))), (.op (some 21) (some (16, false)) (.bin .gtr (.t 20) (.c (.int .i64 1048576)))),
  (.op (some 22) none (.pick (.t 16) (.c (.bool true)) (.t 21)))]) (.cond (.t 22) (.seq (.reg [(.op (some 2) none (.mv (.c (.bool false))))]) .ret) .skip))
  (.reg [(.op (some 23) none (.mv (.t 3))), (.op (some 24) none (.mv (.t 23))), (.op (some 25) (some (24, false)) (.mv (.t 0))), (.op (some 26) (some (24, false)) (.mv (.t 4))),
  (.op (some 27) (some (24, false)) (.iad 1 (.t 25) (.t 26))), (.op (some 28) (some (24, false)) (.ld (.t 27))), (.op (some 29) (some (24, false)) (.bin .gtr (.t 28) (.c
  (.int .i64 0)))), (.op (some 30) none (.pick (.t 24) (.c (.bool true)) (.t 29))), (.op (some 3) none (.mv (.t 30)))]))) (.reg [(.op (some 9) none (.mv (.t 4))),
  (.op (some 10) none (.bin .add (.t 9) (.c (.int .i64 1)))), (.op (some 4) none (.mv (.t 10)))])))))) (.seq (.reg [(.op (some 31) none (.mv (.t 3))), (.op (some 32) none (.mv
  (.t 31))), (.op (some 33) (some (32, true)) (.mv (.t 0))), (.op (some 34) (some (32, true)) (.lenL (.t 33))), (.op (some 35) (some (32, true)) (.bin .leq (.t 34) (.c
  (.int .i64 256)))), (.op (some 36) none (.pick (.t 32) (.t 35) (.c (.bool false)))), (.op (some 2) none (.mv (.t 36)))]) .ret)))), [(.t 2)]⟩
def k73 : KFunc := ⟨25, (.seq (.reg [(.op (some 2) none (.mv (.c (.bool false))))]) (.seq (.seq (.reg [(.op (some 3) none (.mv (.c (.int .i64 0))))]) (.block 0 (.loop (.seq (.seq
  (.reg [(.op (some 4) none (.mv (.t 3))), (.op (some 5) none (.mv (.t 0))), (.op (some 6) none (.lenL (.t 5))), (.op (some 7) none (.bin .lss (.t 4) (.t 6)))]) (.cond
  (.t 7) .skip (.exit 0))) (.seq (.block 1 (.seq (.reg [(.op (some 10) none (.mv (.t 0))), (.op (some 11) none (.mv (.t 3))), (.op (some 12) none (.iad 1 (.t 10) (.t 11))),
  (.op (some 13) none (.ld (.t 12))), (.op (some 14) none (.bin .lss (.t 13) (.c (.int .i64 0)))), (.op (some 15) none (.mv (.t 14))), (.op (some 16) (some (15, false)) (.mv
  (.t 0))), (.op (some 17) (some (15, false)) (.mv (.t 3))), (.op (some 18) (some (15, false)) (.iad 1 (.t 16) (.t 17))), (.op (some 19) (some (15, false)) (.ld (.t 18))),
  (.op (some 20) (some (15, false)) (.bin .gtr (.t 19) (.c (.int .i64 11)))), (.op (some 21) none (.pick (.t 15) (.c (.bool true)) (.t 20)))]) (.cond (.t 21) (.seq
  (.reg [(.op (some 2) none (.mv (.c (.bool false))))]) .ret) .skip))) (.reg [(.op (some 8) none (.mv (.t 3))), (.op (some 9) none (.bin .add (.t 8) (.c (.int .i64 1)))),
  (.op (some 3) none (.mv (.t 9)))])))))) (.seq (.reg [(.op (some 22) none (.mv (.t 0))), (.op (some 23) none (.lenL (.t 22))), (.op (some 24) none (.bin .leq (.t 23) (.c
  (.int .i64 256)))), (.op (some 2) none (.mv (.t 24)))]) .ret))), [(.t 2)]⟩
def k74 : KFunc := ⟨38, (.seq (.reg [(.op (some 4) none (.mv (.c (.int .i64 0)))), (.op (some 5) none (.mv (.c (.bool false))))]) (.seq (.reg [(.op (some 6) none (.mv (.c
  (.int .i64 0))))]) (.seq (.seq (.reg [(.op (some 7) none (.mv (.c (.int .i64 0))))]) (.block 0 (.loop (.seq (.seq (.reg [(.op (some 8) none (.mv (.t 7))), (.op (some 9) none
  (.mv (.t 0))), (.op (some 10) none (.lenL (.t 9))), (.op (some 11) none (.bin .lss (.t 8) (.t 10)))]) (.cond (.t 11) .skip (.exit 0))) (.seq (.block 1 (.seq (.seq
  (.reg [(.op (some 14) none (.mv (.t 0))), (.op (some 15) none (.mv (.t 7))), (.op (some 16) none (.iad 1 (.t 14) (.t 15))), (.op (some 17) none (.ld (.t 16))),
  (.op (some 18) none (.bin .gtr (.t 17) (.c (.int .i64 0)))), (.op (some 19) none (.mv (.t 18))), (.op (some 20) (some (19, true)) (.mv (.t 1))), (.op (some 21) (some (19, true))
  (.mv (.t 7))), (.op (some 22) (some (19, true)) (.iad 1 (.t 20) (.t 21))), (.op (some 23) (some (19, true)) (.ld (.t 22))), (.op (some 24) (some (19, true)) (.bin .eql (.t 23)
  (.c (.int .i64 0)))), (.op (some 25) none (.pick (.t 19) (.t 24) (.c (.bool false))))]) (.cond (.t 25) (.seq (.reg [(.op (some 4) none (.mv (.c (.int .i64 0)))),
  (.op (some 5) none (.mv (.c (.bool false))))]) .ret) .skip)) (.reg [(.op (some 26) none (.mv (.t 6))), (.op (some 27) none (.mv (.t 0))), (.op (some 28) none (.mv (.t 7))),
  (.op (some 29) none (.iad 1 (.t 27) (.t 28))), (.op (some 30) none (.ld (.t 29))), (.op (some 31) none (.mv (.t 1))), (.op (some 32) none (.mv (.t 7))), (.op (some 33) none
  (.iad 1 (.t 31) (.t 32))), (.op (some 34) none (.ld (.t 33))), (.op (some 35) none (.bin .mul (.t 30) (.t 34))), (.op (some 36) none (.bin .add (.t 26) (.t 35))),
  (.op (some 6) none (.mv (.t 36)))]))) (.reg [(.op (some 12) none (.mv (.t 7))), (.op (some 13) none (.bin .add (.t 12) (.c (.int .i64 1)))), (.op (some 7) none (.mv
  (.t 13)))])))))) (.seq (.reg [(.op (some 37) none (.mv (.t 6))), (.op (some 4) none (.mv (.t 37))), (.op (some 5) none (.mv (.c (.bool true))))]) .ret)))), [(.t 4), (.t 5)]⟩
def k75 : KFunc := ⟨39, (.seq (.reg [(.op (some 2) none (.mv (.c (.slice none 0 0)))), (.op (some 3) none (.mv (.c (.bool false))))]) (.seq (.seq (.reg [(.op (some 8) none (.mv
  (.t 0))), (.op (some 9) none (.call 131 [(.t 8)])), (.op (some 10) none (.un .not (.t 9)))]) (.cond (.t 10) (.seq (.reg [(.op (some 2) none (.mv (.c (.slice none 0 0)))),
  (.op (some 3) none (.mv (.c (.bool false))))]) .ret) .skip)) (.seq (.reg [(.op (some 12) none (.mv (.t 0))), (.op (some 13) none (.call 132 [(.t 12)])), (.op (some 11) none (.mv
  (.t 13))), (.op (some 14) none (.xt (.t 11) 0)), (.op (some 15) none (.xt (.t 11) 1)), (.op (some 4) none (.mv (.t 14))), (.op (some 5) none (.mv (.t 15)))]) (.seq
  (.reg [(.op (some 16) none (.mv (.t 0))), (.op (some 17) none (.lenL (.t 16))), (.op (some 18) none (.mks 3 [(.int .i64 0)] 8 (.t 17) (.t 17))), (.op (some 6) none
  (.alloc 47 [(.slice none 0 0)])), (.op none none (.st (.t 6) (.t 18)))]) (.seq (.seq (.reg [(.op (some 19) none (.mv (.t 4))), (.op (some 20) none (.nck (.t 19))),
  (.op (some 21) none (.fad 2 (.t 20))), (.op (some 22) none (.ld (.t 21))), (.op (some 23) none (.bin .geq (.t 22) (.c (.int .i64 0))))]) (.cond (.t 23) (.seq
  (.reg [(.op (some 24) none (.ld (.t 6))), (.op (some 25) none (.mv (.t 4))), (.op (some 26) none (.nck (.t 25))), (.op (some 27) none (.fad 2 (.t 26))), (.op (some 28) none (.ld
  (.t 27))), (.op (some 29) none (.iad 1 (.t 24) (.t 28))), (.op none none (.st (.t 29) (.c (.int .i64 1))))]) (.seq (.reg [(.op (some 30) none (.ld (.t 6))), (.op (some 2) none
  (.mv (.t 30))), (.op (some 3) none (.mv (.c (.bool true))))]) .ret)) .skip)) (.seq (.reg [(.op (some 7) none (.alloc 3 [(.int .i64 0)])), (.op none none (.st (.t 7) (.c
  (.int .i64 0))))]) (.seq (.reg [(.op (some 31) none (.mv (.t 4))), (.op (some 32) none (.mkf (.func 134) [] [(.t 6), (.t 7)])), (.op (some 33) none (.call 133 [(.t 31), (.c
  (.int .i64 0)), (.t 32)]))]) (.seq (.seq (.reg [(.op (some 34) none (.ld (.t 7))), (.op (some 35) none (.bin .gtr (.t 34) (.c (.int .i64 11))))]) (.cond (.t 35) (.seq
  (.reg [(.op (some 36) none (.mv (.t 0))), (.op (some 37) none (.call 135 [(.t 36)])), (.op (some 2) none (.mv (.t 37))), (.op (some 3) none (.mv (.c
  (.bool true))))]) .ret) .skip)) (.seq (.reg [(.op (some 38) none (.ld (.t 6))), (.op (some 2) none (.mv (.t 38))), (.op (some 3) none (.mv (.c (.bool true))))]) .ret))))))))),
  [(.t 2), (.t 3)]⟩
def k79 : KFunc := ⟨28, (.seq (.reg [(.op (some 2) none (.mv (.c (.slice none 0 0))))]) (.seq (.reg [(.op (some 3) none (.mv (.c (.slice none 0 0))))]) (.seq (.seq
  (.reg [(.op (some 6) none (.mv (.t 0))), (.op (some 7) none (.lenL (.t 6))), (.op (some 8) none (.mv (.c (.int .i64 0))))]) (.block 0 (.loop (.seq (.reg [(.op (some 9) none
  (.bin .lss (.t 8) (.t 7)))]) (.seq (.cond (.t 9) .skip (.exit 0)) (.seq (.block 1 (.seq (.reg [(.op (some 10) none (.iad 1 (.t 6) (.t 8))), (.op (some 11) none (.ld (.t 10))),
  (.op (some 5) none (.mv (.t 11)))]) (.seq (.block 2 (.loop (.seq (.seq (.reg [(.op (some 12) none (.mv (.t 3))), (.op (some 13) none (.lenL (.t 12))), (.op (some 14) none (.mv
  (.t 5))), (.op (some 15) none (.cvt .i64 (.t 14))), (.op (some 16) none (.bin .leq (.t 13) (.t 15)))]) (.cond (.t 16) .skip (.exit 2))) (.block 3 (.reg [(.op (some 17) none (.mv
  (.t 3))), (.op (some 18) none (.bsl 3 1 [(.int .i64 0)] [(0, (1, (.c (.int .i64 0))))])), (.op (some 19) none (.app 3 1 8 (.t 17) (.t 18))), (.op (some 3) none (.mv
  (.t 19)))]))))) (.reg [(.op (some 20) none (.mv (.t 3))), (.op (some 21) none (.mv (.t 5))), (.op (some 22) none (.iad 1 (.t 20) (.t 21))), (.op (some 23) none (.ld (.t 22))),
  (.op (some 24) none (.bin .add (.t 23) (.c (.int .i64 1)))), (.op (some 25) none (.iad 1 (.t 20) (.t 21))), (.op none none (.st (.t 25) (.t 24)))])))) (.reg [(.op (some 26) none
  (.bin .add (.t 8) (.c (.int .i64 1)))), (.op (some 8) none (.mv (.t 26)))]))))))) (.seq (.reg [(.op (some 27) none (.mv (.t 3))), (.op (some 2) none (.mv (.t 27)))]) .ret)))),
  [(.t 2)]⟩
def k80 : KFunc := ⟨21, (.seq (.reg [(.op (some 0) none (.mv (.c (.bool false))))]) (.seq (.reg [(.op (some 4) none (.call 38 [(.c (.string (bs [1, 4, 97])))])),
  (.op (some 5) none (.call 82 [(.t 4), (.c (.int .i64 4))])), (.op (some 3) none (.mv (.t 5))), (.op (some 6) none (.xt (.t 3) 0)), (.op (some 7) none (.xt (.t 3) 1)),
  (.op (some 1) none (.mv (.t 6))), (.op (some 2) none (.mv (.t 7)))]) (.seq (.reg [(.op (some 8) none (.call 81 [(.c (.string (bs [97, 97, 97, 97])))])), (.op (some 9) none
  (.bin .eql (.t 8) (.c (.string (bs [1, 4, 97]))))), (.op (some 10) none (.mv (.t 9))), (.op (some 11) (some (10, true)) (.mv (.t 2))), (.op (some 12) none (.pick (.t 10) (.t 11)
  (.c (.bool false)))), (.op (some 13) none (.mv (.t 12))), (.op (some 14) (some (13, true)) (.mv (.t 1))), (.op (some 15) (some (13, true)) (.bin .eql (.t 14) (.c
  (.string (bs [97, 97, 97, 97]))))), (.op (some 16) none (.pick (.t 13) (.t 15) (.c (.bool false)))), (.op (some 17) none (.mv (.t 16))), (.op (some 18) (some (17, true))
  (.call 137 [(.c (.string (bs [97, 98])))])), (.op (some 19) (some (17, true)) (.bin .eql (.t 18) (.c (.string (bs [0, 2, 97, 98]))))), (.op (some 20) none (.pick (.t 17) (.t 19)
  (.c (.bool false)))), (.op (some 0) none (.mv (.t 20)))]) .ret))), [(.t 0)]⟩
def k81 : KFunc := ⟨32, (.seq (.reg [(.op (some 2) none (.mv (.c (.string (bs [])))))]) (.seq (.seq (.reg [(.op (some 6) none (.mv (.t 0))), (.op (some 7) none
  (.call 138 [(.t 6)]))]) (.cond (.t 7) (.seq (.reg [(.op (some 8) none (.mv (.t 0))), (.op (some 9) none (.lenS (.t 8))), (.op (some 11) none (.mv (.t 0))), (.op (some 12) none
  (.slS (.t 11) none (some (.c (.int .i64 1))))), (.op (some 10) none (.call 139 [(.c (.int .i64 1)), (.t 9)])), (.op (some 13) none (.call 140 [(.t 10), (.t 12)])),
  (.op (some 14) none (.call 92 [(.t 13)])), (.op (some 2) none (.mv (.t 14)))]) .ret) .skip)) (.seq (.reg [(.op (some 15) none (.mv (.t 0))), (.op (some 16) none
  (.call 137 [(.t 15)])), (.op (some 3) none (.mv (.t 16)))]) (.seq (.seq (.reg [(.op (some 18) none (.mv (.t 0))), (.op (some 19) none (.call 141 [(.t 18)])), (.op (some 17) none
  (.mv (.t 19))), (.op (some 20) none (.xt (.t 17) 0)), (.op (some 21) none (.xt (.t 17) 1)), (.op (some 4) none (.mv (.t 20))), (.op (some 5) none (.mv (.t 21)))]) (.seq
  (.reg [(.op (some 22) none (.mv (.t 5))), (.op (some 23) none (.mv (.t 22))), (.op (some 24) (some (23, true)) (.mv (.t 4))), (.op (some 25) (some (23, true)) (.lenS (.t 24))),
  (.op (some 26) (some (23, true)) (.mv (.t 3))), (.op (some 27) (some (23, true)) (.lenS (.t 26))), (.op (some 28) (some (23, true)) (.bin .lss (.t 25) (.t 27))),
  (.op (some 29) none (.pick (.t 23) (.t 28) (.c (.bool false))))]) (.cond (.t 29) (.seq (.reg [(.op (some 30) none (.mv (.t 4))), (.op (some 2) none (.mv
  (.t 30)))]) .ret) .skip))) (.seq (.reg [(.op (some 31) none (.mv (.t 3))), (.op (some 2) none (.mv (.t 31)))]) .ret))))), [(.t 2)]⟩
def k82 : KFunc := ⟨44, (.seq (.reg [(.op (some 4) none (.mv (.c (.string (bs []))))), (.op (some 5) none (.mv (.c (.bool false))))]) (.seq (.reg [(.op (some 10) none (.mv
  (.t 0))), (.op (some 11) none (.call 109 [(.t 10), (.c (.int .i64 1))])), (.op (some 6) none (.mv (.t 11)))]) (.seq (.reg [(.op (some 12) none (.mv (.t 0))), (.op (some 13) none
  (.mv (.t 1))), (.op (some 14) none (.mn (.t 13) [(.c (.int .i64 1048576))])), (.op (some 15) none (.call 142 [(.t 12), (.t 14)])), (.op (some 7) none (.mv (.t 15)))]) (.seq
  (.seq (.reg [(.op (some 16) none (.mv (.t 0))), (.op (some 17) none (.call 111 [(.t 16)]))]) (.cond (.t 17) (.seq (.reg [(.op (some 4) none (.mv (.c (.string (bs []))))),
  (.op (some 5) none (.mv (.c (.bool false))))]) .ret) .skip)) (.seq (.seq (.reg [(.op (some 18) none (.mv (.t 6)))]) (.block 0 (.seq (.reg [(.op (some 20) none (.bin .eql (.t 18)
  (.c (.int .u64 0)))), (.op (some 19) none (.mv (.t 20)))]) (.cond (.t 19) (.seq (.reg [(.op (some 21) none (.mv (.t 0))), (.op (some 22) none (.mv (.t 7))), (.op (some 23) none
  (.call 110 [(.t 21), (.t 22)])), (.op (some 8) none (.mv (.t 23)))]) (.seq (.reg [(.op (some 24) none (.mv (.t 8))), (.op (some 25) none (.mv (.t 0))), (.op (some 26) none
  (.call 111 [(.t 25)])), (.op (some 27) none (.un .not (.t 26))), (.op (some 4) none (.mv (.t 24))), (.op (some 5) none (.mv (.t 27)))]) .ret)) (.seq (.reg [(.op (some 29) none
  (.bin .eql (.t 18) (.c (.int .u64 1)))), (.op (some 28) none (.mv (.t 29)))]) (.cond (.t 28) (.seq (.reg [(.op (some 30) none (.mv (.t 0))), (.op (some 31) none
  (.call 110 [(.t 30), (.c (.int .i64 1))])), (.op (some 9) none (.mv (.t 31)))]) (.seq (.seq (.reg [(.op (some 32) none (.mv (.t 0))), (.op (some 33) none
  (.call 111 [(.t 32)]))]) (.cond (.t 33) (.seq (.reg [(.op (some 4) none (.mv (.c (.string (bs []))))), (.op (some 5) none (.mv (.c (.bool false))))]) .ret) .skip)) (.seq
  (.reg [(.op (some 34) none (.mv (.t 9))), (.op (some 35) none (.mv (.t 7))), (.op (some 36) none (.call 143 [(.t 34), (.t 35)])), (.op (some 4) none (.mv (.t 36))),
  (.op (some 5) none (.mv (.c (.bool true))))]) .ret))) (.seq (.reg [(.op (some 38) none (.bin .eql (.t 18) (.c (.int .u64 2)))), (.op (some 37) none (.mv (.t 38)))]) (.cond
  (.t 37) (.seq (.reg [(.op (some 39) none (.mv (.t 0))), (.op (some 40) none (.mv (.t 7))), (.op (some 41) none (.call 144 [(.t 39), (.t 40)])), (.op (some 42) none (.xt
  (.t 41) 0)), (.op (some 43) none (.xt (.t 41) 1)), (.op (some 4) none (.mv (.t 42))), (.op (some 5) none (.mv (.t 43)))]) .ret) .skip)))))))) (.seq (.reg [(.op (some 4) none
  (.mv (.c (.string (bs []))))), (.op (some 5) none (.mv (.c (.bool false))))]) .ret)))))), [(.t 4), (.t 5)]⟩
def k87 : KFunc := ⟨22, (.seq (.reg [(.op (some 2) none (.mv (.c (.string (bs [])))))]) (.seq (.reg [(.op (some 3) none (.mv (.c (.string (bs [])))))]) (.seq (.block 0 (.loop
  (.seq (.seq (.reg [(.op (some 4) none (.mv (.t 0))), (.op (some 5) none (.bin .geq (.t 4) (.c (.int .u64 128))))]) (.cond (.t 5) .skip (.exit 0))) (.block 1 (.seq
  (.reg [(.op (some 6) none (.mv (.t 3))), (.op (some 7) none (.mv (.t 0))), (.op (some 8) none (.bin .rem (.t 7) (.c (.int .u64 128)))), (.op (some 9) none (.bin .add (.t 8) (.c
  (.int .u64 128)))), (.op (some 10) none (.cvt .u8 (.t 9))), (.op (some 11) none (.bsl 5 1 [(.int .u8 0)] [(0, (1, (.t 10)))])), (.op (some 12) none (.b2s 5 (.t 11))),
  (.op (some 13) none (.bin .add (.t 6) (.t 12))), (.op (some 3) none (.mv (.t 13)))]) (.reg [(.op (some 14) none (.mv (.t 0))), (.op (some 15) none (.bin .quo (.t 14) (.c
  (.int .u64 128)))), (.op (some 0) none (.mv (.t 15)))])))))) (.seq (.reg [(.op (some 16) none (.mv (.t 3))), (.op (some 17) none (.mv (.t 0))), (.op (some 18) none (.cvt .u8
  (.t 17))), (.op (some 19) none (.bsl 5 1 [(.int .u8 0)] [(0, (1, (.t 18)))])), (.op (some 20) none (.b2s 5 (.t 19))), (.op (some 21) none (.bin .add (.t 16) (.t 20))),
  (.op (some 2) none (.mv (.t 21)))]) .ret)))), [(.t 2)]⟩
def k89 : KFunc := ⟨28, (.seq (.reg [(.op (some 6) none (.mv (.c (.pointer none))))]) (.seq (.seq (.reg [(.op (some 7) none (.mv (.t 0))), (.op (some 8) none (.eqv .ptr false
  (.t 7) (.c (.pointer none))))]) (.cond (.t 8) (.seq (.reg [(.op (some 6) none (.mv (.c (.pointer none))))]) .ret) .skip)) (.seq (.seq (.reg [(.op (some 9) none (.mv (.t 2))),
  (.op (some 10) none (.call 147 [(.t 9)])), (.op (some 11) none (.mv (.c (.int .i64 0))))]) (.block 0 (.loop (.seq (.reg [(.op (some 12) none (.bin .lss (.t 11) (.t 10)))]) (.seq
  (.cond (.t 12) .skip (.exit 0)) (.seq (.block 1 (.seq (.reg [(.op (some 13) none (.mv (.t 0))), (.op (some 14) none (.mv (.t 0))), (.op (some 15) none (.nck (.t 14))),
  (.op (some 16) none (.fad 0 (.t 15))), (.op (some 17) none (.ld (.t 16))), (.op (some 18) none (.mv (.t 1))), (.op (some 19) none (.cvt .u8 (.t 18))), (.op (some 20) none
  (.bsl 5 1 [(.int .u8 0)] [(0, (1, (.t 19)))])), (.op (some 21) none (.app 5 1 1 (.t 17) (.t 20))), (.op (some 22) none (.nck (.t 13))), (.op (some 23) none (.fad 0 (.t 22))),
  (.op none none (.st (.t 23) (.t 21)))]) (.reg [(.op (some 24) none (.mv (.t 1))), (.op (some 25) none (.bin .shr (.t 24) (.c (.int .u64 8)))), (.op (some 1) none (.mv
  (.t 25)))]))) (.reg [(.op (some 26) none (.bin .add (.t 11) (.c (.int .i64 1)))), (.op (some 11) none (.mv (.t 26)))]))))))) (.seq (.reg [(.op (some 27) none (.mv (.t 0))),
  (.op (some 6) none (.mv (.t 27)))]) .ret)))), [(.t 6)]⟩
def k90 : KFunc := ⟨35, (.seq (.reg [(.op (some 4) none (.mv (.c (.pointer none))))]) (.seq (.seq (.reg [(.op (some 5) none (.mv (.t 0))), (.op (some 6) none (.eqv .ptr false
  (.t 5) (.c (.pointer none))))]) (.cond (.t 6) (.seq (.reg [(.op (some 4) none (.mv (.c (.pointer none))))]) .ret) .skip)) (.seq (.block 0 (.loop (.seq (.seq
  (.reg [(.op (some 7) none (.mv (.t 1))), (.op (some 8) none (.bin .gtr (.t 7) (.c (.int .u64 127))))]) (.cond (.t 8) .skip (.exit 0))) (.block 1 (.seq (.reg [(.op (some 9) none
  (.mv (.t 0))), (.op (some 10) none (.mv (.t 0))), (.op (some 11) none (.nck (.t 10))), (.op (some 12) none (.fad 0 (.t 11))), (.op (some 13) none (.ld (.t 12))),
  (.op (some 14) none (.mv (.t 1))), (.op (some 15) none (.cvt .u8 (.t 14))), (.op (some 16) none (.bin .or (.t 15) (.c (.int .u8 128)))), (.op (some 17) none
  (.bsl 5 1 [(.int .u8 0)] [(0, (1, (.t 16)))])), (.op (some 18) none (.app 5 1 1 (.t 13) (.t 17))), (.op (some 19) none (.nck (.t 9))), (.op (some 20) none (.fad 0 (.t 19))),
  (.op none none (.st (.t 20) (.t 18)))]) (.reg [(.op (some 21) none (.mv (.t 1))), (.op (some 22) none (.bin .shr (.t 21) (.c (.int .u64 7)))), (.op (some 1) none (.mv
  (.t 22)))])))))) (.seq (.reg [(.op (some 23) none (.mv (.t 0))), (.op (some 24) none (.mv (.t 0))), (.op (some 25) none (.nck (.t 24))), (.op (some 26) none (.fad 0 (.t 25))),
  (.op (some 27) none (.ld (.t 26))), (.op (some 28) none (.mv (.t 1))), (.op (some 29) none (.cvt .u8 (.t 28))), (.op (some 30) none (.bsl 5 1 [(.int .u8 0)] [(0, (1,
  (.t 29)))])), (.op (some 31) none (.app 5 1 1 (.t 27) (.t 30))), (.op (some 32) none (.nck (.t 23))), (.op (some 33) none (.fad 0 (.t 32))), (.op none none (.st (.t 33)
  (.t 31)))]) (.seq (.reg [(.op (some 34) none (.mv (.t 0))), (.op (some 4) none (.mv (.t 34)))]) .ret))))), [(.t 4)]⟩
def k91 : KFunc := ⟨12, (.seq (.reg [(.op (some 4) none (.mv (.c (.pointer none))))]) (.seq (.reg [(.op (some 5) none (.mv (.t 0))), (.op (some 6) none (.mv (.t 1))),
  (.op (some 7) none (.lenS (.t 6))), (.op (some 8) none (.cvt .u64 (.t 7))), (.op (some 9) none (.call 90 [(.t 5), (.t 8)])), (.op (some 10) none (.mv (.t 1))),
  (.op (some 11) none (.call 140 [(.t 9), (.t 10)])), (.op (some 4) none (.mv (.t 11)))]) .ret)), [(.t 4)]⟩
def k92 : KFunc := ⟨10, (.seq (.reg [(.op (some 2) none (.mv (.c (.string (bs [])))))]) (.seq (.seq (.reg [(.op (some 3) none (.mv (.t 0))), (.op (some 4) none (.eqv .ptr false
  (.t 3) (.c (.pointer none))))]) (.cond (.t 4) (.seq (.reg [(.op (some 2) none (.mv (.c (.string (bs [])))))]) .ret) .skip)) (.seq (.reg [(.op (some 5) none (.mv (.t 0))),
  (.op (some 6) none (.nck (.t 5))), (.op (some 7) none (.fad 0 (.t 6))), (.op (some 8) none (.ld (.t 7))), (.op (some 9) none (.b2s 5 (.t 8))), (.op (some 2) none (.mv
  (.t 9)))]) .ret))), [(.t 2)]⟩
def k93 : KFunc := ⟨34, (.seq (.reg [(.op (some 2) none (.alloc 34 [(.int .i64 0), (.int .i64 0), (.int .i64 0), (.bool false), (.string (bs []))])), (.op (some 3) none (.mv (.c
  (.bool false))))]) (.seq (.reg [(.op (some 6) none (.mv (.t 0))), (.op (some 7) none (.call 109 [(.t 6), (.c (.int .i64 1))])), (.op (some 8) none (.cvt .i64 (.t 7))),
  (.op (some 4) none (.mv (.t 8)))]) (.seq (.reg [(.op (some 9) none (.mv (.t 4))), (.op (some 10) none (.bin .and (.t 9) (.c (.int .i64 15)))), (.op (some 11) none (.mv (.t 4))),
  (.op (some 12) none (.bin .and (.t 11) (.c (.int .i64 16)))), (.op (some 13) none (.bin .neq (.t 12) (.c (.int .i64 0)))), (.op (some 14) none (.mv (.t 0))), (.op (some 15) none
  (.call 109 [(.t 14), (.c (.int .i64 1))])), (.op (some 16) none (.cvt .i64 (.t 15))), (.op (some 17) none (.mv (.t 0))), (.op (some 18) none (.call 142 [(.t 17), (.c
  (.int .i64 1073741824))])), (.op (some 19) none (.mv (.t 0))), (.op (some 20) none (.call 148 [(.t 19), (.c (.int .i64 600))])), (.op (some 21) none (.build [(.int .i64 0),
  (.int .i64 0), (.int .i64 0), (.bool false), (.string (bs []))] [(0, (1, (.t 10))), (3, (1, (.t 13))), (1, (1, (.t 16))), (2, (1, (.t 18))), (4, (1, (.t 20)))])),
  (.op (some 5) none (.alloc 34 [(.int .i64 0), (.int .i64 0), (.int .i64 0), (.bool false), (.string (bs []))])), (.op none none (.stn 5 (.t 5) (.t 21)))]) (.seq
  (.reg [(.op (some 22) none (.ldn 5 (.t 5))), (.op (some 23) none (.mv (.t 0))), (.op (some 24) none (.call 111 [(.t 23)])), (.chk 22 none (.ldn 5 (.t 5))), (.op (some 25) none
  (.un .not (.t 24))), (.op (some 26) none (.mv (.t 25))), (.op (some 27) (some (26, true)) (.mv (.t 4))), (.op (some 28) (some (26, true)) (.bin .leq (.t 27) (.c
  (.int .i64 31)))), (.op (some 29) none (.pick (.t 26) (.t 28) (.c (.bool false)))), (.op (some 30) none (.mv (.t 29))), (.op (some 31) (some (30, true)) (.ldn 5 (.t 5))),
  (.op (some 32) (some (30, true)) (.call 24 [(.t 31)])), (.chk 22 none (.ldn 5 (.t 5))), (.op (some 33) none (.pick (.t 30) (.t 32) (.c (.bool false)))), (.op none none (.stn 5
  (.t 2) (.t 22))), (.op (some 3) none (.mv (.t 33)))]) .ret)))), [(.cn 2 5), (.t 3)]⟩
def k94 : KFunc := ⟨52, (.seq (.reg [(.op (some 2) none (.mv (.c (.int .u64 0)))), (.op (some 3) none (.mv (.c (.int .i64 0))))]) (.seq (.reg [(.op (some 4) none (.mv (.c
  (.int .i64 0))))]) (.seq (.block 0 (.loop (.seq (.seq (.reg [(.op (some 7) none (.mv (.t 4))), (.op (some 8) none (.mv (.t 0))), (.op (some 9) none (.lenS (.t 8))),
  (.op (some 10) none (.bin .lss (.t 7) (.t 9))), (.op (some 11) none (.mv (.t 10))), (.op (some 12) (some (11, true)) (.mv (.t 0))), (.op (some 13) (some (11, true)) (.mv
  (.t 4))), (.op (some 14) (some (11, true)) (.idS (.t 12) (.t 13))), (.op (some 15) (some (11, true)) (.bin .geq (.t 14) (.c (.int .u8 128)))), (.op (some 16) none (.pick (.t 11)
  (.t 15) (.c (.bool false))))]) (.cond (.t 16) .skip (.exit 0))) (.block 1 (.reg [(.op (some 17) none (.mv (.t 4))), (.op (some 18) none (.bin .add (.t 17) (.c (.int .i64 1)))),
  (.op (some 4) none (.mv (.t 18)))]))))) (.seq (.seq (.reg [(.op (some 19) none (.mv (.t 4))), (.op (some 20) none (.mv (.t 0))), (.op (some 21) none (.lenS (.t 20))),
  (.op (some 22) none (.bin .eql (.t 19) (.t 21))), (.op (some 23) none (.mv (.t 22))), (.op (some 24) (some (23, false)) (.mv (.t 4))), (.op (some 25) (some (23, false))
  (.bin .gtr (.t 24) (.c (.int .i64 9)))), (.op (some 26) none (.pick (.t 23) (.c (.bool true)) (.t 25)))]) (.cond (.t 26) (.seq (.reg [(.op (some 2) none (.mv (.c
  (.int .u64 0)))), (.op (some 3) none (.mv (.c (.int .i64 0))))]) .ret) .skip)) (.seq (.reg [(.op (some 5) none (.mv (.c (.int .u64 0))))]) (.seq (.seq (.reg [(.op (some 27) none
  (.mv (.t 4))), (.op (some 6) none (.mv (.t 27)))]) (.block 2 (.loop (.seq (.seq (.reg [(.op (some 28) none (.mv (.t 6))), (.op (some 29) none (.bin .geq (.t 28) (.c
  (.int .i64 0))))]) (.cond (.t 29) .skip (.exit 2))) (.seq (.block 3 (.seq (.seq (.reg [(.op (some 32) none (.mv (.t 5))), (.op (some 33) none (.bin .gtr (.t 32) (.c
  (.int .u64 144115188075855871))))]) (.cond (.t 33) (.seq (.reg [(.op (some 2) none (.mv (.c (.int .u64 0)))), (.op (some 3) none (.mv (.c (.int .i64 0))))]) .ret) .skip))
  (.reg [(.op (some 34) none (.mv (.t 5))), (.op (some 35) none (.bin .mul (.t 34) (.c (.int .u64 128)))), (.op (some 36) none (.mv (.t 0))), (.op (some 37) none (.mv (.t 6))),
  (.op (some 38) none (.idS (.t 36) (.t 37))), (.op (some 39) none (.bin .rem (.t 38) (.c (.int .u8 128)))), (.op (some 40) none (.cvt .u64 (.t 39))), (.op (some 41) none
  (.bin .add (.t 35) (.t 40))), (.op (some 5) none (.mv (.t 41)))]))) (.reg [(.op (some 30) none (.mv (.t 6))), (.op (some 31) none (.bin .sub (.t 30) (.c (.int .i64 1)))),
  (.op (some 6) none (.mv (.t 31)))])))))) (.seq (.seq (.reg [(.op (some 42) none (.mv (.t 5))), (.op (some 44) none (.mv (.t 0))), (.op (some 45) none (.mv (.t 4))),
  (.op (some 46) none (.bin .add (.t 45) (.c (.int .i64 1)))), (.op (some 47) none (.slS (.t 44) none (some (.t 46)))), (.op (some 43) none (.call 87 [(.t 42)])),
  (.op (some 48) none (.bin .neq (.t 43) (.t 47)))]) (.cond (.t 48) (.seq (.reg [(.op (some 2) none (.mv (.c (.int .u64 0)))), (.op (some 3) none (.mv (.c
  (.int .i64 0))))]) .ret) .skip)) (.seq (.reg [(.op (some 49) none (.mv (.t 5))), (.op (some 50) none (.mv (.t 4))), (.op (some 51) none (.bin .add (.t 50) (.c (.int .i64 1)))),
  (.op (some 2) none (.mv (.t 49))), (.op (some 3) none (.mv (.t 51)))]) .ret)))))))), [(.t 2), (.t 3)]⟩
def k95 : KFunc := ⟨13, (.seq (.reg [(.op (some 2) none (.mv (.c (.int .i64 0))))]) (.seq (.reg [(.op (some 3) none (.mv (.c (.int .i64 1))))]) (.seq (.seq
  (.reg [(.op (some 4) none (.mv (.c (.int .i64 0))))]) (.block 0 (.loop (.seq (.seq (.reg [(.op (some 5) none (.mv (.t 4))), (.op (some 6) none (.mv (.t 0))), (.op (some 7) none
  (.bin .lss (.t 5) (.t 6)))]) (.cond (.t 7) .skip (.exit 0))) (.seq (.block 1 (.reg [(.op (some 10) none (.mv (.t 3))), (.op (some 11) none (.bin .mul (.t 10) (.c
  (.int .i64 2)))), (.op (some 3) none (.mv (.t 11)))])) (.reg [(.op (some 8) none (.mv (.t 4))), (.op (some 9) none (.bin .add (.t 8) (.c (.int .i64 1)))), (.op (some 4) none
  (.mv (.t 9)))])))))) (.seq (.reg [(.op (some 12) none (.mv (.t 3))), (.op (some 2) none (.mv (.t 12)))]) .ret)))), [(.t 2)]⟩
def k96 : KFunc := ⟨72, (.seq (.reg [(.op (some 2) none (.mv (.c (.pointer none))))]) (.seq (.reg [(.op (some 8) none (.build [(.int .i64 0), (.int .i64 0), (.int .i64 0),
  (.int .i64 0), (.int .i64 0), (.int .i64 0), (.int .i64 0), (.int .i64 0), (.int .i64 0), (.int .i64 0), (.int .i64 0), (.int .i64 0), (.int .i64 0), (.int .i64 0),
  (.int .i64 0), (.int .i64 0), (.int .i64 0), (.int .i64 0), (.int .i64 0), (.int .i64 0), (.int .i64 0), (.int .i64 0), (.int .i64 0), (.int .i64 0), (.int .i64 0),
  (.int .i64 0), (.int .i64 0), (.int .i64 0), (.int .i64 0), (.int .i64 0), (.int .i64 0), (.int .i64 0), (.int .i64 0), (.int .i64 0), (.int .i64 0), (.int .i64 0),
  (.int .i64 0), (.int .i64 0), (.int .i64 0), (.slice none 0 0)] [])), (.op (some 9) none (.box 181 (.t 8))), (.op (some 3) none (.mv (.t 9)))]) (.seq (.reg [(.op (some 4) none
  (.mv (.c (.int .i64 0))))]) (.seq (.seq (.reg [(.op (some 5) none (.mv (.c (.int .i64 1))))]) (.block 0 (.loop (.seq (.seq (.reg [(.op (some 10) none (.mv (.t 5))),
  (.op (some 11) none (.bin .leq (.t 10) (.c (.int .i64 11))))]) (.cond (.t 11) .skip (.exit 0))) (.seq (.block 1 (.seq (.reg [(.op (some 14) none (.mv (.t 3))),
  (.op (some 15) none (.mv (.t 5))), (.op (some 16) none (.mv (.t 3))), (.op (some 17) none (.mv (.t 5))), (.op (some 18) none (.mv (.t 4))), (.op (some 19) none (.mv (.t 3))),
  (.op (some 20) none (.nck (.t 19))), (.op (some 21) none (.fad 39 (.t 20))), (.op (some 22) none (.ld (.t 21))), (.op (some 23) none (.lenL (.t 22))), (.op (some 24) none (.nck
  (.t 14))), (.op (some 25) none (.fad 0 (.t 24))), (.op (some 26) none (.iada 13 1 (.t 25) (.t 15))), (.op (some 27) none (.nck (.t 16))), (.op (some 28) none (.fad 26 (.t 27))),
  (.op none none (.st (.t 26) (.t 18))), (.op (some 29) none (.iada 13 1 (.t 28) (.t 17))), (.op none none (.st (.t 29) (.t 23)))]) (.seq (.seq (.reg [(.op (some 30) none (.mv
  (.t 0))), (.op (some 31) none (.lenL (.t 30))), (.op (some 32) none (.mv (.c (.int .i64 0))))]) (.block 2 (.loop (.seq (.reg [(.op (some 33) none (.bin .lss (.t 32) (.t 31)))])
  (.seq (.cond (.t 33) .skip (.exit 2)) (.seq (.block 3 (.seq (.reg [(.op (some 34) none (.mv (.t 32))), (.op (some 35) none (.iad 1 (.t 30) (.t 32))), (.op (some 36) none (.ld
  (.t 35))), (.op (some 6) none (.mv (.t 34))), (.op (some 7) none (.mv (.t 36)))]) (.seq (.reg [(.op (some 37) none (.mv (.t 7))), (.op (some 38) none (.mv (.t 5))),
  (.op (some 39) none (.bin .eql (.t 37) (.t 38)))]) (.cond (.t 39) (.seq (.reg [(.op (some 40) none (.mv (.t 3))), (.op (some 41) none (.mv (.t 3))), (.op (some 42) none (.nck
  (.t 41))), (.op (some 43) none (.fad 39 (.t 42))), (.op (some 44) none (.ld (.t 43))), (.op (some 45) none (.mv (.t 6))), (.op (some 46) none (.cvt .u8 (.t 45))),
  (.op (some 47) none (.bsl 5 1 [(.int .u8 0)] [(0, (1, (.t 46)))])), (.op (some 48) none (.app 5 1 1 (.t 44) (.t 47))), (.op (some 49) none (.nck (.t 40))), (.op (some 50) none
  (.fad 39 (.t 49))), (.op none none (.st (.t 50) (.t 48)))]) (.reg [(.op (some 51) none (.mv (.t 3))), (.op (some 52) none (.mv (.t 5))), (.op (some 53) none (.nck (.t 51))),
  (.op (some 54) none (.fad 13 (.t 53))), (.op (some 55) none (.iada 13 1 (.t 54) (.t 52))), (.op (some 56) none (.ld (.t 55))), (.op (some 57) none (.bin .add (.t 56) (.c
  (.int .i64 1)))), (.op (some 58) none (.nck (.t 51))), (.op (some 59) none (.fad 13 (.t 58))), (.op (some 60) none (.iada 13 1 (.t 59) (.t 52))), (.op none none (.st (.t 60)
  (.t 57)))])) .skip)))) (.reg [(.op (some 61) none (.bin .add (.t 32) (.c (.int .i64 1)))), (.op (some 32) none (.mv (.t 61)))]))))))) (.reg [(.op (some 62) none (.mv (.t 4))),
  (.op (some 63) none (.mv (.t 3))), (.op (some 64) none (.mv (.t 5))), (.op (some 65) none (.nck (.t 63))), (.op (some 66) none (.fad 13 (.t 65))), (.op (some 67) none
  (.iada 13 1 (.t 66) (.t 64))), (.op (some 68) none (.ld (.t 67))), (.op (some 69) none (.bin .add (.t 62) (.t 68))), (.op (some 70) none (.bin .shl (.t 69) (.c (.int .u64 1)))),
  (.op (some 4) none (.mv (.t 70)))])))) (.reg [(.op (some 12) none (.mv (.t 5))), (.op (some 13) none (.bin .add (.t 12) (.c (.int .i64 1)))), (.op (some 5) none (.mv
  (.t 13)))])))))) (.seq (.reg [(.op (some 71) none (.mv (.t 3))), (.op (some 2) none (.mv (.t 71)))]) .ret))))), [(.t 2)]⟩
def k97 : KFunc := ⟨7, (.seq (.reg [(.op (some 2) none (.mv (.c (.pointer none))))]) (.seq (.reg [(.op (some 3) none (.mv (.t 0))), (.op (some 4) none (.app 5 1 1 (.c
  (.slice none 0 0)) (.t 3))), (.op (some 5) none (.build [(.slice none 0 0), (.int .i64 0)] [(0, (1, (.t 4)))])), (.op (some 6) none (.box 183 (.t 5))), (.op (some 2) none (.mv
  (.t 6)))]) .ret)), [(.t 2)]⟩
def k98 : KFunc := ⟨61, (.seq (.reg [(.op (some 4) none (.mv (.c (.int .u8 0)))), (.op (some 5) none (.mv (.c (.bool false))))]) (.seq (.reg [(.op (some 6) none (.mv (.c
  (.int .i64 0))))]) (.seq (.seq (.reg [(.op (some 7) none (.mv (.c (.int .i64 1))))]) (.block 0 (.loop (.seq (.seq (.reg [(.op (some 11) none (.mv (.t 7))), (.op (some 12) none
  (.bin .leq (.t 11) (.c (.int .i64 11))))]) (.cond (.t 12) .skip (.exit 0))) (.seq (.block 1 (.seq (.reg [(.op (some 16) none (.mv (.t 1))), (.op (some 17) none
  (.call 100 [(.t 16), (.c (.int .i64 1))])), (.op (some 15) none (.mv (.t 17))), (.op (some 18) none (.xt (.t 15) 0)), (.op (some 19) none (.xt (.t 15) 1)), (.op (some 8) none
  (.mv (.t 18))), (.op (some 9) none (.mv (.t 19)))]) (.seq (.seq (.reg [(.op (some 20) none (.mv (.t 9))), (.op (some 21) none (.un .not (.t 20)))]) (.cond (.t 21) (.seq
  (.reg [(.op (some 4) none (.mv (.c (.int .u8 0)))), (.op (some 5) none (.mv (.c (.bool false))))]) .ret) .skip)) (.seq (.reg [(.op (some 22) none (.mv (.t 6))),
  (.op (some 23) none (.bin .shl (.t 22) (.c (.int .u64 1)))), (.op (some 24) none (.mv (.t 8))), (.op (some 25) none (.cvt .i64 (.t 24))), (.op (some 26) none (.bin .or (.t 23)
  (.t 25))), (.op (some 6) none (.mv (.t 26)))]) (.seq (.reg [(.op (some 27) none (.mv (.t 6))), (.op (some 28) none (.mv (.t 0))), (.op (some 29) none (.mv (.t 7))),
  (.op (some 30) none (.nck (.t 28))), (.op (some 31) none (.fad 0 (.t 30))), (.op (some 32) none (.iada 13 1 (.t 31) (.t 29))), (.op (some 33) none (.ld (.t 32))),
  (.op (some 34) none (.bin .sub (.t 27) (.t 33))), (.op (some 10) none (.mv (.t 34)))]) (.seq (.reg [(.op (some 35) none (.mv (.t 10))), (.op (some 36) none (.bin .geq (.t 35)
  (.c (.int .i64 0)))), (.op (some 37) none (.mv (.t 36))), (.op (some 38) (some (37, true)) (.mv (.t 10))), (.op (some 39) (some (37, true)) (.mv (.t 0))),
  (.op (some 40) (some (37, true)) (.mv (.t 7))), (.op (some 41) (some (37, true)) (.nck (.t 39))), (.op (some 42) (some (37, true)) (.fad 13 (.t 41))), (.op (some 43) (some (37,
  true)) (.iada 13 1 (.t 42) (.t 40))), (.op (some 44) (some (37, true)) (.ld (.t 43))), (.op (some 45) (some (37, true)) (.bin .lss (.t 38) (.t 44))), (.op (some 46) none (.pick
  (.t 37) (.t 45) (.c (.bool false))))]) (.cond (.t 46) (.seq (.reg [(.op (some 47) none (.mv (.t 0))), (.op (some 48) none (.nck (.t 47))), (.op (some 49) none (.fad 39
  (.t 48))), (.op (some 50) none (.ld (.t 49))), (.op (some 51) none (.mv (.t 0))), (.op (some 52) none (.mv (.t 7))), (.op (some 53) none (.nck (.t 51))), (.op (some 54) none
  (.fad 26 (.t 53))), (.op (some 55) none (.iada 13 1 (.t 54) (.t 52))), (.op (some 56) none (.ld (.t 55))), (.op (some 57) none (.mv (.t 10))), (.op (some 58) none (.bin .add
  (.t 56) (.t 57))), (.op (some 59) none (.iad 1 (.t 50) (.t 58))), (.op (some 60) none (.ld (.t 59))), (.op (some 4) none (.mv (.t 60))), (.op (some 5) none (.mv (.c
  (.bool true))))]) .ret) .skip))))))) (.reg [(.op (some 13) none (.mv (.t 7))), (.op (some 14) none (.bin .add (.t 13) (.c (.int .i64 1)))), (.op (some 7) none (.mv
  (.t 14)))])))))) (.seq (.reg [(.op (some 4) none (.mv (.c (.int .u8 0)))), (.op (some 5) none (.mv (.c (.bool false))))]) .ret)))), [(.t 4), (.t 5)]⟩
def k99 : KFunc := ⟨16, (.seq (.reg [(.op (some 2) none (.mv (.c (.int .i64 0))))]) (.seq (.seq (.reg [(.op (some 3) none (.mv (.t 0))), (.op (some 4) none (.eqv .ptr false (.t 3)
  (.c (.pointer none))))]) (.cond (.t 4) (.seq (.reg [(.op (some 2) none (.mv (.c (.int .i64 0))))]) .ret) .skip)) (.seq (.reg [(.op (some 5) none (.mv (.t 0))),
  (.op (some 6) none (.nck (.t 5))), (.op (some 7) none (.fad 0 (.t 6))), (.op (some 8) none (.ld (.t 7))), (.op (some 9) none (.lenL (.t 8))), (.op (some 10) none (.bin .mul (.c
  (.int .i64 8)) (.t 9))), (.op (some 11) none (.mv (.t 0))), (.op (some 12) none (.nck (.t 11))), (.op (some 13) none (.fad 1 (.t 12))), (.op (some 14) none (.ld (.t 13))),
  (.op (some 15) none (.bin .sub (.t 10) (.t 14))), (.op (some 2) none (.mv (.t 15)))]) .ret))), [(.t 2)]⟩
def k100 : KFunc := ⟨73, (.seq (.reg [(.op (some 4) none (.mv (.c (.int .u32 0)))), (.op (some 5) none (.mv (.c (.bool false))))]) (.seq (.seq (.reg [(.op (some 11) none (.mv
  (.t 0))), (.op (some 12) none (.eqv .ptr false (.t 11) (.c (.pointer none)))), (.op (some 13) none (.mv (.t 12))), (.op (some 14) (some (13, false)) (.mv (.t 1))),
  (.op (some 15) (some (13, false)) (.call 149 [(.t 14)])), (.op (some 16) (some (13, false)) (.un .not (.t 15))), (.op (some 17) none (.pick (.t 13) (.c (.bool true)) (.t 16))),
  (.op (some 18) none (.mv (.t 17))), (.op (some 19) (some (18, false)) (.mv (.t 1))), (.op (some 20) (some (18, false)) (.mv (.t 0))), (.op (some 21) (some (18, false))
  (.call 99 [(.t 20)])), (.op (some 22) (some (18, false)) (.bin .gtr (.t 19) (.t 21))), (.op (some 23) none (.pick (.t 18) (.c (.bool true)) (.t 22)))]) (.cond (.t 23) (.seq
  (.reg [(.op (some 4) none (.mv (.c (.int .u32 0)))), (.op (some 5) none (.mv (.c (.bool false))))]) .ret) .skip)) (.seq (.reg [(.op (some 6) none (.mv (.c (.int .u32 0))))])
  (.seq (.seq (.reg [(.op (some 7) none (.mv (.c (.int .i64 0))))]) (.block 0 (.loop (.seq (.seq (.reg [(.op (some 24) none (.mv (.t 7))), (.op (some 25) none (.mv (.t 1))),
  (.op (some 26) none (.bin .lss (.t 24) (.t 25)))]) (.cond (.t 26) .skip (.exit 0))) (.block 1 (.seq (.reg [(.op (some 27) none (.mv (.t 0))), (.op (some 28) none (.nck
  (.t 27))), (.op (some 29) none (.fad 1 (.t 28))), (.op (some 30) none (.ld (.t 29))), (.op (some 31) none (.bin .and (.t 30) (.c (.int .i64 7)))), (.op (some 8) none (.mv
  (.t 31)))]) (.seq (.reg [(.op (some 32) none (.mv (.t 1))), (.op (some 33) none (.mv (.t 7))), (.op (some 34) none (.bin .sub (.t 32) (.t 33))), (.op (some 35) none (.mv
  (.t 8))), (.op (some 36) none (.bin .sub (.c (.int .i64 8)) (.t 35))), (.op (some 37) none (.mn (.t 34) [(.t 36)])), (.op (some 9) none (.mv (.t 37)))]) (.seq
  (.reg [(.op (some 38) none (.mv (.t 0))), (.op (some 39) none (.nck (.t 38))), (.op (some 40) none (.fad 0 (.t 39))), (.op (some 41) none (.ld (.t 40))), (.op (some 42) none
  (.mv (.t 0))), (.op (some 43) none (.nck (.t 42))), (.op (some 44) none (.fad 1 (.t 43))), (.op (some 45) none (.ld (.t 44))), (.op (some 46) none (.bin .shr (.t 45) (.c
  (.int .u64 3)))), (.op (some 47) none (.iad 1 (.t 41) (.t 46))), (.op (some 48) none (.ld (.t 47))), (.op (some 49) none (.mv (.t 8))), (.op (some 50) none (.bin .shr (.t 48)
  (.t 49))), (.op (some 51) none (.cvt .u32 (.t 50))), (.op (some 52) none (.mv (.t 9))), (.op (some 53) none (.bin .shl (.c (.int .u32 1)) (.t 52))), (.op (some 54) none
  (.bin .sub (.t 53) (.c (.int .u32 1)))), (.op (some 55) none (.bin .and (.t 51) (.t 54))), (.op (some 10) none (.mv (.t 55)))]) (.seq (.reg [(.op (some 56) none (.mv (.t 6))),
  (.op (some 57) none (.mv (.t 10))), (.op (some 58) none (.mv (.t 7))), (.op (some 59) none (.bin .shl (.t 57) (.t 58))), (.op (some 60) none (.bin .or (.t 56) (.t 59))),
  (.op (some 6) none (.mv (.t 60)))]) (.seq (.reg [(.op (some 61) none (.mv (.t 7))), (.op (some 62) none (.mv (.t 9))), (.op (some 63) none (.bin .add (.t 61) (.t 62))),
  (.op (some 7) none (.mv (.t 63)))]) (.reg [(.op (some 64) none (.mv (.t 0))), (.op (some 65) none (.nck (.t 64))), (.op (some 66) none (.fad 1 (.t 65))), (.op (some 67) none
  (.ld (.t 66))), (.op (some 68) none (.mv (.t 9))), (.op (some 69) none (.bin .add (.t 67) (.t 68))), (.op (some 70) none (.nck (.t 64))), (.op (some 71) none (.fad 1 (.t 70))),
  (.op none none (.st (.t 71) (.t 69)))]))))))))))) (.seq (.reg [(.op (some 72) none (.mv (.t 6))), (.op (some 4) none (.mv (.t 72))), (.op (some 5) none (.mv (.c
  (.bool true))))]) .ret))))), [(.t 4), (.t 5)]⟩
def k101 : KFunc := ⟨31, (.seq (.reg [(.op (some 4) none (.mv (.c (.slice none 0 0))))]) (.seq (.reg [(.op (some 5) none (.mv (.c (.slice none 0 0))))]) (.seq
  (.reg [(.op (some 8) none (.mv (.t 0))), (.op (some 9) none (.call 70 [(.t 8)])), (.op (some 10) none (.mv (.t 1))), (.op (some 11) none (.iad 1 (.t 9) (.t 10))),
  (.op (some 12) none (.ld (.t 11))), (.op (some 6) none (.mv (.t 12)))]) (.seq (.seq (.reg [(.op (some 13) none (.mv (.t 0))), (.op (some 14) none (.mv (.t 1))),
  (.op (some 15) none (.iad 1 (.t 13) (.t 14))), (.op (some 16) none (.ld (.t 15))), (.op (some 17) none (.bin .sub (.t 16) (.c (.int .i64 1)))), (.op (some 7) none (.mv
  (.t 17)))]) (.block 0 (.loop (.seq (.seq (.reg [(.op (some 18) none (.mv (.t 7))), (.op (some 19) none (.bin .geq (.t 18) (.c (.int .i64 0))))]) (.cond (.t 19) .skip (.exit 0)))
  (.seq (.block 1 (.reg [(.op (some 22) none (.mv (.t 5))), (.op (some 23) none (.mv (.t 6))), (.op (some 24) none (.mv (.t 7))), (.op (some 25) none (.call 95 [(.t 24)])),
  (.op (some 26) none (.bin .quo (.t 23) (.t 25))), (.op (some 27) none (.bin .rem (.t 26) (.c (.int .i64 2)))), (.op (some 28) none (.bsl 3 1 [(.int .i64 0)] [(0, (1,
  (.t 27)))])), (.op (some 29) none (.app 3 1 8 (.t 22) (.t 28))), (.op (some 5) none (.mv (.t 29)))])) (.reg [(.op (some 20) none (.mv (.t 7))), (.op (some 21) none (.bin .sub
  (.t 20) (.c (.int .i64 1)))), (.op (some 7) none (.mv (.t 21)))])))))) (.seq (.reg [(.op (some 30) none (.mv (.t 5))), (.op (some 4) none (.mv (.t 30)))]) .ret))))), [(.t 4)]⟩
def k102 : KFunc := ⟨20, (.seq (.reg [(.op (some 2) none (.mv (.c (.slice none 0 0))))]) (.seq (.reg [(.op (some 3) none (.mv (.c (.slice none 0 0))))]) (.seq (.seq
  (.reg [(.op (some 4) none (.mv (.c (.int .i64 0))))]) (.block 0 (.loop (.seq (.seq (.reg [(.op (some 5) none (.mv (.t 4))), (.op (some 6) none (.mv (.t 0))), (.op (some 7) none
  (.lenL (.t 6))), (.op (some 8) none (.bin .lss (.t 5) (.t 7)))]) (.cond (.t 8) .skip (.exit 0))) (.seq (.block 1 (.reg [(.op (some 11) none (.mv (.t 3))), (.op (some 12) none
  (.mv (.t 0))), (.op (some 13) none (.mv (.t 4))), (.op (some 14) none (.iad 1 (.t 12) (.t 13))), (.op (some 15) none (.ld (.t 14))), (.op (some 16) none (.cvt .u32 (.t 15))),
  (.op (some 17) none (.call 150 [(.t 16), (.c (.int .i64 8))])), (.op (some 18) none (.app 3 1 8 (.t 11) (.t 17))), (.op (some 3) none (.mv (.t 18)))])) (.reg [(.op (some 9) none
  (.mv (.t 4))), (.op (some 10) none (.bin .add (.t 9) (.c (.int .i64 1)))), (.op (some 4) none (.mv (.t 10)))])))))) (.seq (.reg [(.op (some 19) none (.mv (.t 3))),
  (.op (some 2) none (.mv (.t 19)))]) .ret)))), [(.t 2)]⟩
def k103 : KFunc := ⟨26, (.seq (.reg [(.op (some 4) none (.mv (.c (.bool false))))]) (.seq (.seq (.reg [(.op (some 6) none (.mv (.t 0))), (.op (some 7) none (.lenL (.t 6))),
  (.op (some 8) none (.mv (.t 1))), (.op (some 9) none (.lenL (.t 8))), (.op (some 10) none (.bin .lss (.t 7) (.t 9)))]) (.cond (.t 10) (.seq (.reg [(.op (some 4) none (.mv (.c
  (.bool false))))]) .ret) .skip)) (.seq (.seq (.reg [(.op (some 5) none (.mv (.c (.int .i64 0))))]) (.block 0 (.loop (.seq (.seq (.reg [(.op (some 11) none (.mv (.t 5))),
  (.op (some 12) none (.mv (.t 1))), (.op (some 13) none (.lenL (.t 12))), (.op (some 14) none (.bin .lss (.t 11) (.t 13)))]) (.cond (.t 14) .skip (.exit 0))) (.seq (.block 1
  (.seq (.reg [(.op (some 17) none (.mv (.t 0))), (.op (some 18) none (.mv (.t 5))), (.op (some 19) none (.iad 1 (.t 17) (.t 18))), (.op (some 20) none (.ld (.t 19))),
  (.op (some 21) none (.mv (.t 1))), (.op (some 22) none (.mv (.t 5))), (.op (some 23) none (.iad 1 (.t 21) (.t 22))), (.op (some 24) none (.ld (.t 23))), (.op (some 25) none
  (.bin .neq (.t 20) (.t 24)))]) (.cond (.t 25) (.seq (.reg [(.op (some 4) none (.mv (.c (.bool false))))]) .ret) .skip))) (.reg [(.op (some 15) none (.mv (.t 5))),
  (.op (some 16) none (.bin .add (.t 15) (.c (.int .i64 1)))), (.op (some 5) none (.mv (.t 16)))])))))) (.seq (.reg [(.op (some 4) none (.mv (.c (.bool true))))]) .ret)))),
  [(.t 4)]⟩
def k104 : KFunc := ⟨74, (.seq (.reg [(.op (some 6) none (.mv (.c (.bool false))))]) (.seq (.seq (.reg [(.op (some 9) none (.mv (.t 0))), (.op (some 10) none (.eqv .ptr false
  (.t 9) (.c (.pointer none)))), (.op (some 11) none (.mv (.t 10))), (.op (some 12) (some (11, false)) (.mv (.t 2))), (.op (some 13) (some (11, false)) (.call 149 [(.t 12)])),
  (.op (some 14) (some (11, false)) (.un .not (.t 13))), (.op (some 15) none (.pick (.t 11) (.c (.bool true)) (.t 14)))]) (.cond (.t 15) (.seq (.reg [(.op (some 6) none (.mv (.c
  (.bool false))))]) .ret) .skip)) (.seq (.block 0 (.loop (.seq (.seq (.reg [(.op (some 16) none (.mv (.t 2))), (.op (some 17) none (.bin .gtr (.t 16) (.c (.int .i64 0))))])
  (.cond (.t 17) .skip (.exit 0))) (.block 1 (.seq (.reg [(.op (some 18) none (.mv (.t 0))), (.op (some 19) none (.nck (.t 18))), (.op (some 20) none (.fad 1 (.t 19))),
  (.op (some 21) none (.ld (.t 20))), (.op (some 22) none (.bin .and (.t 21) (.c (.int .i64 7)))), (.op (some 7) none (.mv (.t 22)))]) (.seq (.seq (.reg [(.op (some 23) none (.mv
  (.t 7))), (.op (some 24) none (.bin .eql (.t 23) (.c (.int .i64 0))))]) (.cond (.t 24) (.reg [(.op (some 25) none (.mv (.t 0))), (.op (some 26) none (.mv (.t 0))),
  (.op (some 27) none (.nck (.t 26))), (.op (some 28) none (.fad 0 (.t 27))), (.op (some 29) none (.ld (.t 28))), (.op (some 30) none (.bsl 5 1 [(.int .u8 0)] [(0, (1, (.c
  (.int .u8 0))))])), (.op (some 31) none (.app 5 1 1 (.t 29) (.t 30))), (.op (some 32) none (.nck (.t 25))), (.op (some 33) none (.fad 0 (.t 32))), (.op none none (.st (.t 33)
  (.t 31)))]) .skip)) (.seq (.reg [(.op (some 34) none (.mv (.t 2))), (.op (some 35) none (.mv (.t 7))), (.op (some 36) none (.bin .sub (.c (.int .i64 8)) (.t 35))),
  (.op (some 37) none (.mn (.t 34) [(.t 36)])), (.op (some 8) none (.mv (.t 37)))]) (.seq (.reg [(.op (some 38) none (.mv (.t 0))), (.op (some 39) none (.nck (.t 38))),
  (.op (some 40) none (.fad 0 (.t 39))), (.op (some 41) none (.ld (.t 40))), (.op (some 42) none (.mv (.t 0))), (.op (some 43) none (.nck (.t 42))), (.op (some 44) none (.fad 0
  (.t 43))), (.op (some 45) none (.ld (.t 44))), (.op (some 46) none (.lenL (.t 45))), (.op (some 47) none (.bin .sub (.t 46) (.c (.int .i64 1)))), (.op (some 48) none (.iad 1
  (.t 41) (.t 47))), (.op (some 49) none (.ld (.t 48))), (.op (some 50) none (.mv (.t 1))), (.op (some 51) none (.mv (.t 8))), (.op (some 52) none (.bin .shl (.c (.int .u32 1))
  (.t 51))), (.op (some 53) none (.bin .sub (.t 52) (.c (.int .u32 1)))), (.op (some 54) none (.bin .and (.t 50) (.t 53))), (.op (some 55) none (.cvt .u8 (.t 54))),
  (.op (some 56) none (.mv (.t 7))), (.op (some 57) none (.bin .shl (.t 55) (.t 56))), (.op (some 58) none (.bin .or (.t 49) (.t 57))), (.op (some 59) none (.iad 1 (.t 41)
  (.t 47))), (.op none none (.st (.t 59) (.t 58)))]) (.seq (.reg [(.op (some 60) none (.mv (.t 1))), (.op (some 61) none (.mv (.t 8))), (.op (some 62) none (.bin .shr (.t 60)
  (.t 61))), (.op (some 1) none (.mv (.t 62)))]) (.seq (.reg [(.op (some 63) none (.mv (.t 0))), (.op (some 64) none (.nck (.t 63))), (.op (some 65) none (.fad 1 (.t 64))),
  (.op (some 66) none (.ld (.t 65))), (.op (some 67) none (.mv (.t 8))), (.op (some 68) none (.bin .add (.t 66) (.t 67))), (.op (some 69) none (.nck (.t 63))), (.op (some 70) none
  (.fad 1 (.t 69))), (.op none none (.st (.t 70) (.t 68)))]) (.reg [(.op (some 71) none (.mv (.t 2))), (.op (some 72) none (.mv (.t 8))), (.op (some 73) none (.bin .sub (.t 71)
  (.t 72))), (.op (some 2) none (.mv (.t 73)))]))))))))))) (.seq (.reg [(.op (some 6) none (.mv (.c (.bool true))))]) .ret)))), [(.t 6)]⟩
def k105 : KFunc := ⟨19, (.seq (.reg [(.op (some 4) none (.mv (.c (.int .u32 0))))]) (.seq (.reg [(.op (some 5) none (.mv (.c (.int .u32 0))))]) (.seq (.seq
  (.reg [(.op (some 6) none (.mv (.t 1))), (.op (some 7) none (.mv (.c (.int .i64 0))))]) (.block 0 (.loop (.seq (.reg [(.op (some 8) none (.bin .lss (.t 7) (.t 6)))]) (.seq
  (.cond (.t 8) .skip (.exit 0)) (.seq (.block 1 (.seq (.reg [(.op (some 9) none (.mv (.t 5))), (.op (some 10) none (.bin .shl (.t 9) (.c (.int .u64 1)))), (.op (some 11) none
  (.mv (.t 0))), (.op (some 12) none (.bin .and (.t 11) (.c (.int .i64 1)))), (.op (some 13) none (.cvt .u32 (.t 12))), (.op (some 14) none (.bin .or (.t 10) (.t 13))),
  (.op (some 5) none (.mv (.t 14)))]) (.reg [(.op (some 15) none (.mv (.t 0))), (.op (some 16) none (.bin .shr (.t 15) (.c (.int .u64 1)))), (.op (some 0) none (.mv (.t 16)))])))
  (.reg [(.op (some 17) none (.bin .add (.t 7) (.c (.int .i64 1)))), (.op (some 7) none (.mv (.t 17)))]))))))) (.seq (.reg [(.op (some 18) none (.mv (.t 5))), (.op (some 4) none
  (.mv (.t 18)))]) .ret)))), [(.t 4)]⟩
def k106 : KFunc := ⟨10, (.seq (.reg [(.op (some 2) none (.mv (.c (.slice none 0 0))))]) (.seq (.seq (.reg [(.op (some 3) none (.mv (.t 0))), (.op (some 4) none (.eqv .ptr false
  (.t 3) (.c (.pointer none))))]) (.cond (.t 4) (.seq (.reg [(.op (some 2) none (.mv (.c (.slice none 0 0))))]) .ret) .skip)) (.seq (.reg [(.op (some 5) none (.mv (.t 0))),
  (.op (some 6) none (.nck (.t 5))), (.op (some 7) none (.fad 0 (.t 6))), (.op (some 8) none (.ld (.t 7))), (.op (some 9) none (.app 5 1 1 (.c (.slice none 0 0)) (.t 8))),
  (.op (some 2) none (.mv (.t 9)))]) .ret))), [(.t 2)]⟩
def k107 : KFunc := ⟨21, (.seq (.reg [(.op (some 2) none (.mv (.c (.slice none 0 0))))]) (.seq (.reg [(.op (some 4) none (.mv (.t 0))), (.op (some 5) none (.lenL (.t 4))),
  (.op (some 3) none (.mv (.t 5)))]) (.seq (.block 0 (.loop (.seq (.seq (.reg [(.op (some 6) none (.mv (.t 3))), (.op (some 7) none (.bin .gtr (.t 6) (.c (.int .i64 0)))),
  (.op (some 8) none (.mv (.t 7))), (.op (some 9) (some (8, true)) (.mv (.t 0))), (.op (some 10) (some (8, true)) (.mv (.t 3))), (.op (some 11) (some (8, true)) (.bin .sub (.t 10)
  (.c (.int .i64 1)))), (.op (some 12) (some (8, true)) (.iad 1 (.t 9) (.t 11))), (.op (some 13) (some (8, true)) (.ld (.t 12))), (.op (some 14) (some (8, true)) (.bin .eql
  (.t 13) (.c (.int .i64 0)))), (.op (some 15) none (.pick (.t 8) (.t 14) (.c (.bool false))))]) (.cond (.t 15) .skip (.exit 0))) (.block 1 (.reg [(.op (some 16) none (.mv
  (.t 3))), (.op (some 17) none (.bin .sub (.t 16) (.c (.int .i64 1)))), (.op (some 3) none (.mv (.t 17)))]))))) (.seq (.reg [(.op (some 18) none (.mv (.t 0))),
  (.op (some 19) none (.mv (.t 3))), (.op (some 20) none (.slc 3 1 (.t 18) none (some (.t 19)))), (.op (some 2) none (.mv (.t 20)))]) .ret)))), [(.t 2)]⟩
def k108 : KFunc := ⟨36, (.seq (.reg [(.op (some 2) none (.mv (.c (.slice none 0 0))))]) (.seq (.reg [(.op (some 3) none (.mv (.c (.slice none 0 0))))]) (.seq (.seq
  (.reg [(.op (some 4) none (.mv (.c (.int .i64 0))))]) (.block 0 (.loop (.seq (.seq (.reg [(.op (some 5) none (.mv (.t 4))), (.op (some 6) none (.mv (.t 0))), (.op (some 7) none
  (.lenL (.t 6))), (.op (some 8) none (.bin .lss (.t 5) (.t 7)))]) (.cond (.t 8) .skip (.exit 0))) (.seq (.block 1 (.seq (.seq (.reg [(.op (some 11) none (.mv (.t 4))),
  (.op (some 12) none (.bin .rem (.t 11) (.c (.int .i64 8)))), (.op (some 13) none (.bin .eql (.t 12) (.c (.int .i64 0))))]) (.cond (.t 13) (.reg [(.op (some 14) none (.mv
  (.t 3))), (.op (some 15) none (.bsl 5 1 [(.int .u8 0)] [(0, (1, (.c (.int .u8 0))))])), (.op (some 16) none (.app 5 1 1 (.t 14) (.t 15))), (.op (some 3) none (.mv
  (.t 16)))]) .skip)) (.seq (.reg [(.op (some 17) none (.mv (.t 0))), (.op (some 18) none (.mv (.t 4))), (.op (some 19) none (.iad 1 (.t 17) (.t 18))), (.op (some 20) none (.ld
  (.t 19))), (.op (some 21) none (.bin .eql (.t 20) (.c (.int .i64 1))))]) (.cond (.t 21) (.reg [(.op (some 22) none (.mv (.t 3))), (.op (some 23) none (.mv (.t 4))),
  (.op (some 24) none (.bin .quo (.t 23) (.c (.int .i64 8)))), (.op (some 25) none (.mv (.t 3))), (.op (some 26) none (.mv (.t 4))), (.op (some 27) none (.bin .quo (.t 26) (.c
  (.int .i64 8)))), (.op (some 28) none (.iad 1 (.t 25) (.t 27))), (.op (some 29) none (.ld (.t 28))), (.op (some 30) none (.mv (.t 4))), (.op (some 31) none (.bin .rem (.t 30)
  (.c (.int .i64 8)))), (.op (some 32) none (.bin .shl (.c (.int .u8 1)) (.t 31))), (.op (some 33) none (.bin .or (.t 29) (.t 32))), (.op (some 34) none (.iad 1 (.t 22) (.t 24))),
  (.op none none (.st (.t 34) (.t 33)))]) .skip)))) (.reg [(.op (some 9) none (.mv (.t 4))), (.op (some 10) none (.bin .add (.t 9) (.c (.int .i64 1)))), (.op (some 4) none (.mv
  (.t 10)))])))))) (.seq (.reg [(.op (some 35) none (.mv (.t 3))), (.op (some 2) none (.mv (.t 35)))]) .ret)))), [(.t 2)]⟩
def k109 : KFunc := ⟨28, (.seq (.reg [(.op (some 4) none (.mv (.c (.int .u64 0))))]) (.seq (.reg [(.op (some 5) none (.mv (.c (.int .u64 0))))]) (.seq (.seq
  (.reg [(.op (some 8) none (.mv (.t 0))), (.op (some 9) none (.mv (.t 1))), (.op (some 10) none (.call 147 [(.t 9)])), (.op (some 11) none (.call 110 [(.t 8), (.t 10)])),
  (.op (some 12) none (.s2b 5 (.t 11))), (.op (some 13) none (.lenL (.t 12))), (.op (some 14) none (.mv (.c (.int .i64 0))))]) (.block 0 (.loop (.seq (.reg [(.op (some 15) none
  (.bin .lss (.t 14) (.t 13)))]) (.seq (.cond (.t 15) .skip (.exit 0)) (.seq (.block 1 (.seq (.reg [(.op (some 16) none (.mv (.t 14))), (.op (some 17) none (.iad 1 (.t 12)
  (.t 14))), (.op (some 18) none (.ld (.t 17))), (.op (some 6) none (.mv (.t 16))), (.op (some 7) none (.mv (.t 18)))]) (.reg [(.op (some 19) none (.mv (.t 5))),
  (.op (some 20) none (.mv (.t 7))), (.op (some 21) none (.cvt .u64 (.t 20))), (.op (some 22) none (.mv (.t 6))), (.op (some 23) none (.bin .mul (.c (.int .i64 8)) (.t 22))),
  (.op (some 24) none (.bin .shl (.t 21) (.t 23))), (.op (some 25) none (.bin .or (.t 19) (.t 24))), (.op (some 5) none (.mv (.t 25)))]))) (.reg [(.op (some 26) none (.bin .add
  (.t 14) (.c (.int .i64 1)))), (.op (some 14) none (.mv (.t 26)))]))))))) (.seq (.reg [(.op (some 27) none (.mv (.t 5))), (.op (some 4) none (.mv (.t 27)))]) .ret)))), [(.t 4)]⟩
def k110 : KFunc := ⟨37, (.seq (.reg [(.op (some 4) none (.mv (.c (.string (bs [])))))]) (.seq (.reg [(.op (some 6) none (.mv (.t 1))), (.op (some 7) none (.mx (.t 6) [(.c
  (.int .i64 0))])), (.op (some 1) none (.mv (.t 7)))]) (.seq (.seq (.reg [(.op (some 8) none (.mv (.t 0))), (.op (some 9) none (.call 111 [(.t 8)])), (.op (some 10) none (.mv
  (.t 9))), (.op (some 11) (some (10, false)) (.mv (.t 0))), (.op (some 12) (some (10, false)) (.nck (.t 11))), (.op (some 13) (some (10, false)) (.fad 0 (.t 12))),
  (.op (some 14) (some (10, false)) (.ld (.t 13))), (.op (some 15) (some (10, false)) (.lenS (.t 14))), (.op (some 16) (some (10, false)) (.mv (.t 1))), (.op (some 17) (some (10,
  false)) (.bin .lss (.t 15) (.t 16))), (.op (some 18) none (.pick (.t 10) (.c (.bool true)) (.t 17)))]) (.cond (.t 18) (.seq (.reg [(.op (some 19) none (.mv (.t 0))),
  (.op (some 20) none (.call 151 [(.t 19)]))]) (.seq (.reg [(.op (some 4) none (.mv (.c (.string (bs [])))))]) .ret)) .skip)) (.seq (.reg [(.op (some 21) none (.mv (.t 0))),
  (.op (some 22) none (.nck (.t 21))), (.op (some 23) none (.fad 0 (.t 22))), (.op (some 24) none (.ld (.t 23))), (.op (some 25) none (.mv (.t 1))), (.op (some 26) none (.slS
  (.t 24) none (some (.t 25)))), (.op (some 5) none (.mv (.t 26)))]) (.seq (.reg [(.op (some 27) none (.mv (.t 0))), (.op (some 28) none (.mv (.t 0))), (.op (some 29) none (.nck
  (.t 28))), (.op (some 30) none (.fad 0 (.t 29))), (.op (some 31) none (.ld (.t 30))), (.op (some 32) none (.mv (.t 1))), (.op (some 33) none (.slS (.t 31) (some (.t 32)) none)),
  (.op (some 34) none (.nck (.t 27))), (.op (some 35) none (.fad 0 (.t 34))), (.op none none (.st (.t 35) (.t 33)))]) (.seq (.reg [(.op (some 36) none (.mv (.t 5))),
  (.op (some 4) none (.mv (.t 36)))]) .ret)))))), [(.t 4)]⟩
def k111 : KFunc := ⟨11, (.seq (.reg [(.op (some 2) none (.mv (.c (.bool false))))]) (.seq (.reg [(.op (some 3) none (.mv (.t 0))), (.op (some 4) none (.eqv .ptr false (.t 3) (.c
  (.pointer none)))), (.op (some 5) none (.mv (.t 4))), (.op (some 6) (some (5, false)) (.mv (.t 0))), (.op (some 7) (some (5, false)) (.nck (.t 6))), (.op (some 8) (some (5,
  false)) (.fad 1 (.t 7))), (.op (some 9) (some (5, false)) (.ld (.t 8))), (.op (some 10) none (.pick (.t 5) (.c (.bool true)) (.t 9))), (.op (some 2) none (.mv
  (.t 10)))]) .ret)), [(.t 2)]⟩
def k116 : KFunc := ⟨9, (.reg [(.op (some 4) none (.mv (.t 0))), (.op (some 5) none (.mv (.t 0))), (.op (some 6) none (.lenL (.t 5))), (.op (some 7) none (.mv (.t 1))),
  (.op (some 8) none (.call 152 [(.t 4), (.t 6), (.t 7)]))]), []⟩
def k118 : KFunc := ⟨20, (.seq (.reg [(.op (some 4) none (.mv (.c (.int .i64 0))))]) (.seq (.reg [(.op (some 7) none (.mv (.t 0))), (.op (some 8) none (.call 153 [(.t 7)])),
  (.op (some 5) none (.mv (.t 8)))]) (.seq (.reg [(.op (some 9) none (.mv (.t 1))), (.op (some 10) none (.call 153 [(.t 9)])), (.op (some 6) none (.mv (.t 10)))]) (.seq (.seq
  (.reg [(.op (some 11) none (.mv (.t 5)))]) (.cond (.t 11) (.seq (.seq (.reg [(.op (some 12) none (.mv (.t 6)))]) (.cond (.t 12) (.seq (.reg [(.op (some 4) none (.mv (.c
  (.int .i64 0))))]) .ret) .skip)) (.seq (.reg [(.op (some 4) none (.mv (.c (.int .i64 (-1)))))]) .ret)) .skip)) (.seq (.seq (.reg [(.op (some 13) none (.mv (.t 6)))]) (.cond
  (.t 13) (.seq (.reg [(.op (some 4) none (.mv (.c (.int .i64 1))))]) .ret) .skip)) (.seq (.seq (.reg [(.op (some 14) none (.mv (.t 0))), (.op (some 15) none (.mv (.t 1))),
  (.op (some 16) none (.bin .lss (.t 14) (.t 15)))]) (.cond (.t 16) (.seq (.reg [(.op (some 4) none (.mv (.c (.int .i64 (-1)))))]) .ret) .skip)) (.seq (.seq
  (.reg [(.op (some 17) none (.mv (.t 0))), (.op (some 18) none (.mv (.t 1))), (.op (some 19) none (.bin .gtr (.t 17) (.t 18)))]) (.cond (.t 19) (.seq (.reg [(.op (some 4) none
  (.mv (.c (.int .i64 1))))]) .ret) .skip)) (.seq (.reg [(.op (some 4) none (.mv (.c (.int .i64 0))))]) .ret)))))))), [(.t 4)]⟩
def k130 : KFunc := ⟨21, (.seq (.reg [(.op (some 2) none (.mv (.c (.bool false))))]) (.seq (.seq (.reg [(.op (some 5) none (.mv (.t 0))), (.op (some 6) none (.lenL (.t 5))),
  (.op (some 7) none (.mv (.c (.int .i64 0))))]) (.block 0 (.loop (.seq (.reg [(.op (some 8) none (.bin .lss (.t 7) (.t 6)))]) (.seq (.cond (.t 8) .skip (.exit 0)) (.seq (.block 1
  (.seq (.reg [(.op (some 9) none (.iad 1 (.t 5) (.t 7))), (.op (some 10) none (.ld (.t 9))), (.op (some 4) none (.mv (.t 10)))]) (.seq (.reg [(.op (some 11) none (.mv (.t 4))),
  (.op (some 12) none (.bin .lss (.t 11) (.c (.int .i64 0)))), (.op (some 13) none (.mv (.t 12))), (.op (some 14) (some (13, false)) (.mv (.t 4))), (.op (some 15) (some (13,
  false)) (.bin .gtr (.t 14) (.c (.int .i64 11)))), (.op (some 16) none (.pick (.t 13) (.c (.bool true)) (.t 15)))]) (.cond (.t 16) (.seq (.reg [(.op (some 2) none (.mv (.c
  (.bool false))))]) .ret) .skip)))) (.reg [(.op (some 17) none (.bin .add (.t 7) (.c (.int .i64 1)))), (.op (some 7) none (.mv (.t 17)))]))))))) (.seq (.reg [(.op (some 18) none
  (.mv (.t 0))), (.op (some 19) none (.lenL (.t 18))), (.op (some 20) none (.bin .leq (.t 19) (.c (.int .i64 256)))), (.op (some 2) none (.mv (.t 20)))]) .ret))), [(.t 2)]⟩
def k131 : KFunc := ⟨24, (.seq (.reg [(.op (some 2) none (.mv (.c (.bool false))))]) (.seq (.seq (.reg [(.op (some 5) none (.mv (.t 0))), (.op (some 6) none (.lenL (.t 5))),
  (.op (some 7) none (.bin .gtr (.t 6) (.c (.int .i64 256))))]) (.cond (.t 7) (.seq (.reg [(.op (some 2) none (.mv (.c (.bool false))))]) .ret) .skip)) (.seq (.seq
  (.reg [(.op (some 8) none (.mv (.t 0))), (.op (some 9) none (.lenL (.t 8))), (.op (some 10) none (.mv (.c (.int .i64 0))))]) (.block 0 (.loop (.seq (.reg [(.op (some 11) none
  (.bin .lss (.t 10) (.t 9)))]) (.seq (.cond (.t 11) .skip (.exit 0)) (.seq (.block 1 (.seq (.reg [(.op (some 12) none (.iad 1 (.t 8) (.t 10))), (.op (some 13) none (.ld
  (.t 12))), (.op (some 4) none (.mv (.t 13)))]) (.seq (.reg [(.op (some 14) none (.mv (.t 4))), (.op (some 15) none (.bin .lss (.t 14) (.c (.int .i64 0)))), (.op (some 16) none
  (.mv (.t 15))), (.op (some 17) (some (16, false)) (.mv (.t 4))), (.op (some 18) (some (16, false)) (.bin .gtr (.t 17) (.c (.int .i64 1048576)))), (.op (some 19) none (.pick
  (.t 16) (.c (.bool true)) (.t 18)))]) (.cond (.t 19) (.seq (.reg [(.op (some 2) none (.mv (.c (.bool false))))]) .ret) .skip)))) (.reg [(.op (some 20) none (.bin .add (.t 10)
  (.c (.int .i64 1)))), (.op (some 10) none (.mv (.t 20)))]))))))) (.seq (.reg [(.op (some 21) none (.mv (.t 0))), (.op (some 22) none (.call 162 [(.t 21)])), (.op (some 23) none
  (.bin .gtr (.t 22) (.c (.int .i64 0)))), (.op (some 2) none (.mv (.t 23)))]) .ret)))), [(.t 2)]⟩
def k132 : KFunc := ⟨78, (.seq (.reg [(.op (some 2) none (.mv (.c (.pointer none)))), (.op (some 3) none (.mv (.c (.int .i64 0))))]) (.seq (.reg [(.op (some 12) none
  (.bsl 159 0 [] [])), (.op (some 13) none (.box 203 (.t 12))), (.op (some 4) none (.mv (.t 13)))]) (.seq (.seq (.reg [(.op (some 14) none (.mv (.t 0))), (.op (some 15) none
  (.lenL (.t 14))), (.op (some 16) none (.mv (.c (.int .i64 0))))]) (.block 0 (.loop (.seq (.reg [(.op (some 17) none (.bin .lss (.t 16) (.t 15)))]) (.seq (.cond (.t 17) .skip
  (.exit 0)) (.seq (.block 1 (.seq (.reg [(.op (some 18) none (.mv (.t 16))), (.op (some 19) none (.iad 1 (.t 14) (.t 16))), (.op (some 20) none (.ld (.t 19))), (.op (some 5) none
  (.mv (.t 18))), (.op (some 6) none (.mv (.t 20)))]) (.seq (.reg [(.op (some 21) none (.mv (.t 6))), (.op (some 22) none (.bin .gtr (.t 21) (.c (.int .i64 0))))]) (.cond (.t 22)
  (.reg [(.op (some 23) none (.mv (.t 4))), (.op (some 24) none (.mv (.t 4))), (.op (some 25) none (.nck (.t 24))), (.op (some 26) none (.ld (.t 25))), (.op (some 27) none (.mv
  (.t 6))), (.op (some 28) none (.mv (.t 5))), (.op (some 29) none (.mv (.t 5))), (.op (some 30) none (.build [(.int .i64 0), (.int .i64 0), (.int .i64 0), (.pointer none),
  (.pointer none)] [(0, (1, (.t 27))), (1, (1, (.t 28))), (2, (1, (.t 29)))])), (.op (some 31) none (.box 163 (.t 30))), (.op (some 32) none (.bsl 159 1 [(.pointer none)] [(0, (1,
  (.t 31)))])), (.op (some 33) none (.app 159 1 8 (.t 26) (.t 32))), (.op (some 34) none (.nck (.t 23))), (.op none none (.st (.t 34) (.t 33)))]) .skip))))
  (.reg [(.op (some 35) none (.bin .add (.t 16) (.c (.int .i64 1)))), (.op (some 16) none (.mv (.t 35)))]))))))) (.seq (.reg [(.op (some 36) none (.mv (.t 4))),
  (.op (some 37) none (.mki 201 (.t 36))), (.op (some 38) none (.call 155 [(.t 37)]))]) (.seq (.reg [(.op (some 7) none (.mv (.c (.int .i64 0))))]) (.seq (.seq
  (.reg [(.op (some 8) none (.mv (.c (.int .i64 256))))]) (.block 2 (.loop (.seq (.seq (.reg [(.op (some 39) none (.mv (.t 4))), (.op (some 40) none (.nck (.t 39))),
  (.op (some 41) none (.ld (.t 40))), (.op (some 42) none (.call 163 [(.t 41)])), (.op (some 43) none (.bin .gtr (.t 42) (.c (.int .i64 1))))]) (.cond (.t 43) .skip (.exit 2)))
  (.seq (.block 3 (.seq (.reg [(.op (some 46) none (.mv (.t 4))), (.op (some 47) none (.call 164 [(.t 46)])), (.op (some 48) none (.mv (.t 4))), (.op (some 49) none
  (.call 164 [(.t 48)])), (.op (some 9) none (.mv (.t 47))), (.op (some 10) none (.mv (.t 49)))]) (.seq (.reg [(.op (some 50) none (.mv (.t 9))), (.op (some 51) none (.nck
  (.t 50))), (.op (some 52) none (.fad 0 (.t 51))), (.op (some 53) none (.ld (.t 52))), (.op (some 54) none (.mv (.t 10))), (.op (some 55) none (.nck (.t 54))),
  (.op (some 56) none (.fad 0 (.t 55))), (.op (some 57) none (.ld (.t 56))), (.op (some 58) none (.bin .add (.t 53) (.t 57))), (.op (some 59) none (.mv (.t 8))),
  (.op (some 60) none (.mv (.t 9))), (.op (some 61) none (.mv (.t 10))), (.op (some 62) none (.build [(.int .i64 0), (.int .i64 0), (.int .i64 0), (.pointer none),
  (.pointer none)] [(0, (1, (.t 58))), (1, (1, (.t 59))), (2, (1, (.c (.int .i64 (-1))))), (3, (1, (.t 60))), (4, (1, (.t 61)))])), (.op (some 63) none (.box 163 (.t 62))),
  (.op (some 11) none (.mv (.t 63)))]) (.seq (.reg [(.op (some 64) none (.mv (.t 7))), (.op (some 65) none (.mv (.t 11))), (.op (some 66) none (.nck (.t 65))), (.op (some 67) none
  (.fad 0 (.t 66))), (.op (some 68) none (.ld (.t 67))), (.op (some 69) none (.bin .add (.t 64) (.t 68))), (.op (some 7) none (.mv (.t 69)))]) (.reg [(.op (some 70) none (.mv
  (.t 4))), (.op (some 71) none (.mki 201 (.t 70))), (.op (some 72) none (.mv (.t 11))), (.op (some 73) none (.mki 159 (.t 72))), (.op (some 74) none (.call 158 [(.t 71),
  (.t 73)]))]))))) (.reg [(.op (some 44) none (.mv (.t 8))), (.op (some 45) none (.bin .add (.t 44) (.c (.int .i64 1)))), (.op (some 8) none (.mv (.t 45)))])))))) (.seq
  (.reg [(.op (some 75) none (.mv (.t 4))), (.op (some 76) none (.call 164 [(.t 75)])), (.op (some 77) none (.mv (.t 7))), (.op (some 2) none (.mv (.t 76))), (.op (some 3) none
  (.mv (.t 77)))]) .ret))))))), [(.t 2), (.t 3)]⟩
def k133 : KFunc := ⟨34, (.seq (.seq (.reg [(.op (some 6) none (.mv (.t 0))), (.op (some 7) none (.nck (.t 6))), (.op (some 8) none (.fad 2 (.t 7))), (.op (some 9) none (.ld
  (.t 8))), (.op (some 10) none (.bin .geq (.t 9) (.c (.int .i64 0))))]) (.cond (.t 10) (.seq (.reg [(.op (some 11) none (.mv (.t 2))), (.op (some 12) none (.mv (.t 0))),
  (.op (some 13) none (.nck (.t 12))), (.op (some 14) none (.fad 2 (.t 13))), (.op (some 15) none (.ld (.t 14))), (.op (some 16) none (.mv (.t 1))), (.op (some 17) none (.callv
  (.t 11) [(.t 15), (.t 16)]))]) .ret) .skip)) (.seq (.reg [(.op (some 18) none (.mv (.t 0))), (.op (some 19) none (.nck (.t 18))), (.op (some 20) none (.fad 3 (.t 19))),
  (.op (some 21) none (.ld (.t 20))), (.op (some 22) none (.mv (.t 1))), (.op (some 23) none (.bin .add (.t 22) (.c (.int .i64 1)))), (.op (some 24) none (.mv (.t 2))),
  (.op (some 25) none (.call 133 [(.t 21), (.t 23), (.t 24)]))]) (.reg [(.op (some 26) none (.mv (.t 0))), (.op (some 27) none (.nck (.t 26))), (.op (some 28) none (.fad 4
  (.t 27))), (.op (some 29) none (.ld (.t 28))), (.op (some 30) none (.mv (.t 1))), (.op (some 31) none (.bin .add (.t 30) (.c (.int .i64 1)))), (.op (some 32) none (.mv (.t 2))),
  (.op (some 33) none (.call 133 [(.t 29), (.t 31), (.t 32)]))]))), []⟩
def k134 : KFunc := ⟨13, (.seq (.reg [(.op (some 6) none (.ld (.t 2))), (.op (some 7) none (.mv (.t 0))), (.op (some 8) none (.mv (.t 1))), (.op (some 9) none (.iad 1 (.t 6)
  (.t 7))), (.op none none (.st (.t 9) (.t 8)))]) (.reg [(.op (some 10) none (.ld (.t 3))), (.op (some 11) none (.mv (.t 1))), (.op (some 12) none (.mx (.t 10) [(.t 11)])),
  (.op none none (.st (.t 3) (.t 12)))])), []⟩
def k135 : KFunc := ⟨62, (.seq (.reg [(.op (some 1) none (.box 47 (.t 0))), (.op (some 2) none (.mv (.c (.slice none 0 0))))]) (.seq (.reg [(.op (some 11) none (.ld (.t 1))),
  (.op (some 12) none (.lenL (.t 11))), (.op (some 13) none (.mks 3 [(.int .i64 0)] 8 (.t 12) (.t 12))), (.op (some 3) none (.mv (.t 13)))]) (.seq (.reg [(.op (some 4) none (.mv
  (.c (.slice none 0 0))))]) (.seq (.seq (.reg [(.op (some 14) none (.ld (.t 1))), (.op (some 15) none (.lenL (.t 14))), (.op (some 16) none (.mv (.c (.int .i64 0))))]) (.block 0
  (.loop (.seq (.reg [(.op (some 17) none (.bin .lss (.t 16) (.t 15)))]) (.seq (.cond (.t 17) .skip (.exit 0)) (.seq (.block 1 (.seq (.reg [(.op (some 18) none (.mv (.t 16))),
  (.op (some 19) none (.iad 1 (.t 14) (.t 16))), (.op (some 20) none (.ld (.t 19))), (.op (some 5) none (.mv (.t 18))), (.op (some 6) none (.mv (.t 20)))]) (.seq
  (.reg [(.op (some 21) none (.mv (.t 6))), (.op (some 22) none (.bin .gtr (.t 21) (.c (.int .i64 0))))]) (.cond (.t 22) (.reg [(.op (some 23) none (.mv (.t 4))),
  (.op (some 24) none (.mv (.t 5))), (.op (some 25) none (.bsl 3 1 [(.int .i64 0)] [(0, (1, (.t 24)))])), (.op (some 26) none (.app 3 1 8 (.t 23) (.t 25))), (.op (some 4) none
  (.mv (.t 26)))]) .skip)))) (.reg [(.op (some 27) none (.bin .add (.t 16) (.c (.int .i64 1)))), (.op (some 16) none (.mv (.t 27)))]))))))) (.seq (.reg [(.op (some 28) none (.mv
  (.t 4))), (.op (some 29) none (.lenL (.t 28))), (.op (some 30) none (.bin .sub (.t 29) (.c (.int .i64 1)))), (.op (some 31) none (.cvt .u32 (.t 30))), (.op (some 32) none
  (.call 165 [(.t 31)])), (.op (some 7) none (.mv (.t 32)))]) (.seq (.reg [(.op (some 33) none (.mv (.t 4))), (.op (some 34) none (.mkf (.func 166) [] [(.t 1)])),
  (.op (some 35) none (.call 116 [(.t 33), (.t 34)]))]) (.seq (.reg [(.op (some 36) none (.mv (.t 7))), (.op (some 37) none (.bin .shl (.c (.int .i64 1)) (.t 36))),
  (.op (some 38) none (.mv (.t 4))), (.op (some 39) none (.lenL (.t 38))), (.op (some 40) none (.bin .sub (.t 37) (.t 39))), (.op (some 8) none (.mv (.t 40)))]) (.seq (.seq
  (.reg [(.op (some 41) none (.mv (.t 4))), (.op (some 42) none (.lenL (.t 41))), (.op (some 43) none (.mv (.c (.int .i64 0))))]) (.block 2 (.loop (.seq (.reg [(.op (some 44) none
  (.bin .lss (.t 43) (.t 42)))]) (.seq (.cond (.t 44) .skip (.exit 2)) (.seq (.block 3 (.seq (.reg [(.op (some 45) none (.mv (.t 43))), (.op (some 46) none (.iad 1 (.t 41)
  (.t 43))), (.op (some 47) none (.ld (.t 46))), (.op (some 9) none (.mv (.t 45))), (.op (some 10) none (.mv (.t 47)))]) (.seq (.reg [(.op (some 48) none (.mv (.t 3))),
  (.op (some 49) none (.mv (.t 10))), (.op (some 50) none (.mv (.t 7))), (.op (some 51) none (.iad 1 (.t 48) (.t 49))), (.op none none (.st (.t 51) (.t 50)))]) (.seq
  (.reg [(.op (some 52) none (.mv (.t 9))), (.op (some 53) none (.mv (.t 8))), (.op (some 54) none (.bin .lss (.t 52) (.t 53)))]) (.cond (.t 54) (.reg [(.op (some 55) none (.mv
  (.t 3))), (.op (some 56) none (.mv (.t 10))), (.op (some 57) none (.mv (.t 7))), (.op (some 58) none (.bin .sub (.t 57) (.c (.int .i64 1)))), (.op (some 59) none (.iad 1 (.t 55)
  (.t 56))), (.op none none (.st (.t 59) (.t 58)))]) .skip))))) (.reg [(.op (some 60) none (.bin .add (.t 43) (.c (.int .i64 1)))), (.op (some 43) none (.mv (.t 60)))])))))))
  (.seq (.reg [(.op (some 61) none (.mv (.t 3))), (.op (some 2) none (.mv (.t 61)))]) .ret))))))))), [(.t 2)]⟩
def k137 : KFunc := ⟨9, (.seq (.reg [(.op (some 2) none (.mv (.c (.string (bs [])))))]) (.seq (.reg [(.op (some 3) none (.mv (.t 0))), (.op (some 4) none (.lenS (.t 3))),
  (.op (some 5) none (.call 139 [(.c (.int .i64 0)), (.t 4)])), (.op (some 6) none (.mv (.t 0))), (.op (some 7) none (.call 140 [(.t 5), (.t 6)])), (.op (some 8) none
  (.call 92 [(.t 7)])), (.op (some 2) none (.mv (.t 8)))]) .ret)), [(.t 2)]⟩
def k138 : KFunc := ⟨14, (.seq (.reg [(.op (some 2) none (.mv (.c (.bool false))))]) (.seq (.reg [(.op (some 3) none (.mv (.t 0))), (.op (some 4) none (.bin .neq (.t 3) (.c
  (.string (bs []))))), (.op (some 5) none (.mv (.t 4))), (.op (some 6) (some (5, true)) (.mv (.t 0))), (.op (some 7) (some (5, true)) (.mv (.t 0))), (.op (some 8) (some (5,
  true)) (.slS (.t 7) none (some (.c (.int .i64 1))))), (.op (some 9) (some (5, true)) (.mv (.t 0))), (.op (some 10) (some (5, true)) (.lenS (.t 9))), (.op (some 11) (some (5,
  true)) (.call 143 [(.t 8), (.t 10)])), (.op (some 12) (some (5, true)) (.bin .eql (.t 6) (.t 11))), (.op (some 13) none (.pick (.t 5) (.t 12) (.c (.bool false)))),
  (.op (some 2) none (.mv (.t 13)))]) .ret)), [(.t 2)]⟩
def k139 : KFunc := ⟨12, (.seq (.reg [(.op (some 4) none (.mv (.c (.pointer none))))]) (.seq (.reg [(.op (some 5) none (.alloc 110 [(.slice none 0 0)]))]) (.seq
  (.reg [(.op (some 6) none (.mv (.t 0))), (.op (some 7) none (.cvt .u64 (.t 6))), (.op (some 8) none (.call 89 [(.t 5), (.t 7), (.c (.int .i64 1))])), (.op (some 9) none (.mv
  (.t 1))), (.op (some 10) none (.cvt .u64 (.t 9))), (.op (some 11) none (.call 90 [(.t 8), (.t 10)])), (.op (some 4) none (.mv (.t 11)))]) .ret))), [(.t 4)]⟩
def k140 : KFunc := ⟨17, (.seq (.reg [(.op (some 4) none (.mv (.c (.pointer none))))]) (.seq (.seq (.reg [(.op (some 5) none (.mv (.t 0))), (.op (some 6) none (.eqv .ptr false
  (.t 5) (.c (.pointer none))))]) (.cond (.t 6) (.seq (.reg [(.op (some 4) none (.mv (.c (.pointer none))))]) .ret) .skip)) (.seq (.reg [(.op (some 7) none (.mv (.t 0))),
  (.op (some 8) none (.mv (.t 0))), (.op (some 9) none (.nck (.t 8))), (.op (some 10) none (.fad 0 (.t 9))), (.op (some 11) none (.ld (.t 10))), (.op (some 12) none (.mv (.t 1))),
  (.op (some 13) none (.appS 5 (.t 11) (.t 12))), (.op (some 14) none (.nck (.t 7))), (.op (some 15) none (.fad 0 (.t 14))), (.op none none (.st (.t 15) (.t 13)))]) (.seq
  (.reg [(.op (some 16) none (.mv (.t 0))), (.op (some 4) none (.mv (.t 16)))]) .ret)))), [(.t 4)]⟩
def k141 : KFunc := ⟨39, (.seq (.reg [(.op (some 2) none (.mv (.c (.string (bs []))))), (.op (some 3) none (.mv (.c (.bool false))))]) (.seq (.reg [(.op (some 10) none (.mv
  (.t 0))), (.op (some 11) none (.s2b 5 (.t 10))), (.op (some 12) none (.call 79 [(.t 11)])), (.op (some 13) none (.call 75 [(.t 12)])), (.op (some 9) none (.mv (.t 13))),
  (.op (some 14) none (.xt (.t 9) 0)), (.op (some 15) none (.xt (.t 9) 1)), (.op (some 4) none (.mv (.t 14))), (.op (some 5) none (.mv (.t 15)))]) (.seq (.seq
  (.reg [(.op (some 16) none (.mv (.t 5))), (.op (some 17) none (.un .not (.t 16)))]) (.cond (.t 17) (.seq (.reg [(.op (some 2) none (.mv (.c (.string (bs []))))),
  (.op (some 3) none (.mv (.c (.bool false))))]) .ret) .skip)) (.seq (.reg [(.op (some 19) none (.mv (.t 4))), (.op (some 20) none (.call 36 [(.t 19)])), (.op (some 18) none (.mv
  (.t 20))), (.op (some 21) none (.xt (.t 18) 0)), (.op (some 22) none (.xt (.t 18) 1)), (.op (some 6) none (.mv (.t 21))), (.op (some 7) none (.mv (.t 22)))]) (.seq
  (.reg [(.op (some 24) none (.mv (.t 4))), (.op (some 25) none (.mv (.t 0))), (.op (some 26) none (.s2b 5 (.t 25))), (.op (some 27) none (.call 35 [(.t 24), (.t 26)])),
  (.op (some 23) none (.mv (.t 27))), (.op (some 28) none (.xt (.t 23) 0)), (.op (some 29) none (.xt (.t 23) 1)), (.op (some 8) none (.mv (.t 28))), (.op (some 5) none (.mv
  (.t 29)))]) (.seq (.reg [(.op (some 30) none (.mv (.t 0))), (.op (some 31) none (.lenS (.t 30))), (.op (some 32) none (.call 139 [(.c (.int .i64 2)), (.t 31)])),
  (.op (some 33) none (.mv (.t 6))), (.op (some 34) none (.call 140 [(.t 32), (.t 33)])), (.op (some 35) none (.mv (.t 8))), (.op (some 36) none (.call 91 [(.t 34), (.t 35)])),
  (.op (some 37) none (.call 92 [(.t 36)])), (.op (some 38) none (.mv (.t 5))), (.op (some 2) none (.mv (.t 37))), (.op (some 3) none (.mv (.t 38)))]) .ret)))))), [(.t 2), (.t 3)]⟩
def k142 : KFunc := ⟨24, (.seq (.reg [(.op (some 4) none (.mv (.c (.int .i64 0))))]) (.seq (.reg [(.op (some 6) none (.mv (.t 0))), (.op (some 7) none (.call 167 [(.t 6)])),
  (.op (some 5) none (.mv (.t 7)))]) (.seq (.seq (.reg [(.op (some 8) none (.mv (.t 0))), (.op (some 9) none (.call 111 [(.t 8)])), (.op (some 10) none (.mv (.t 9))),
  (.op (some 11) (some (10, false)) (.mv (.t 1))), (.op (some 12) (some (10, false)) (.bin .lss (.t 11) (.c (.int .i64 0)))), (.op (some 13) none (.pick (.t 10) (.c (.bool true))
  (.t 12))), (.op (some 14) none (.mv (.t 13))), (.op (some 15) (some (14, false)) (.mv (.t 5))), (.op (some 16) (some (14, false)) (.mv (.t 1))), (.op (some 17) (some (14,
  false)) (.cvt .u64 (.t 16))), (.op (some 18) (some (14, false)) (.bin .gtr (.t 15) (.t 17))), (.op (some 19) none (.pick (.t 14) (.c (.bool true)) (.t 18)))]) (.cond (.t 19)
  (.seq (.reg [(.op (some 20) none (.mv (.t 0))), (.op (some 21) none (.call 151 [(.t 20)]))]) (.seq (.reg [(.op (some 4) none (.mv (.c (.int .i64 0))))]) .ret)) .skip)) (.seq
  (.reg [(.op (some 22) none (.mv (.t 5))), (.op (some 23) none (.cvt .i64 (.t 22))), (.op (some 4) none (.mv (.t 23)))]) .ret)))), [(.t 4)]⟩
def k143 : KFunc := ⟨125, (.seq (.reg [(.op (some 4) none (.mv (.c (.string (bs [])))))]) (.seq (.seq (.reg [(.op (some 11) none (.mv (.t 1)))]) (.block 0 (.seq
  (.reg [(.op (some 13) none (.bin .eql (.t 11) (.c (.int .i64 0)))), (.op (some 12) none (.mv (.t 13)))]) (.cond (.t 12) (.seq (.reg [(.op (some 4) none (.mv (.c
  (.string (bs [])))))]) .ret) (.seq (.reg [(.op (some 15) none (.bin .eql (.t 11) (.c (.int .i64 1)))), (.op (some 14) none (.mv (.t 15)))]) (.cond (.t 14) (.seq
  (.reg [(.op (some 16) none (.mv (.t 0))), (.op (some 4) none (.mv (.t 16)))]) .ret) .skip)))))) (.seq (.seq (.reg [(.op (some 17) none (.mv (.t 1))), (.op (some 18) none
  (.bin .lss (.t 17) (.c (.int .i64 0))))]) (.cond (.t 18) (.reg [(.op (some 19) none (.mki 9 (.c (.string (bs [115, 116, 114, 105, 110, 103, 115, 58, 32, 110, 101, 103, 97, 116,
  105, 118, 101, 32, 82, 101, 112, 101, 97, 116, 32, 99, 111, 117, 110, 116]))))), (.op none none .nev)]) .skip)) (.seq (.reg [(.op (some 21) none (.mv (.t 0))),
  (.op (some 22) none (.lenS (.t 21))), (.op (some 23) none (.cvt .u64 (.t 22))), (.op (some 24) none (.mv (.t 1))), (.op (some 25) none (.cvt .u64 (.t 24))), (.op (some 26) none
  (.call 168 [(.t 23), (.t 25)])), (.op (some 20) none (.mv (.t 26))), (.op (some 27) none (.xt (.t 20) 0)), (.op (some 28) none (.xt (.t 20) 1)), (.op (some 5) none (.mv
  (.t 27))), (.op (some 6) none (.mv (.t 28)))]) (.seq (.seq (.reg [(.op (some 29) none (.mv (.t 5))), (.op (some 30) none (.bin .gtr (.t 29) (.c (.int .u64 0)))),
  (.op (some 31) none (.mv (.t 30))), (.op (some 32) (some (31, false)) (.mv (.t 6))), (.op (some 33) (some (31, false)) (.bin .gtr (.t 32) (.c (.int .u64 9223372036854775807)))),
  (.op (some 34) none (.pick (.t 31) (.c (.bool true)) (.t 33)))]) (.cond (.t 34) (.reg [(.op (some 35) none (.mki 9 (.c (.string (bs [115, 116, 114, 105, 110, 103, 115, 58, 32,
  82, 101, 112, 101, 97, 116, 32, 111, 117, 116, 112, 117, 116, 32, 108, 101, 110, 103, 116, 104, 32, 111, 118, 101, 114, 102, 108, 111, 119]))))), (.op none none .nev)]) .skip))
  (.seq (.reg [(.op (some 36) none (.mv (.t 6))), (.op (some 37) none (.cvt .i64 (.t 36))), (.op (some 7) none (.mv (.t 37)))]) (.seq (.seq (.reg [(.op (some 38) none (.mv
  (.t 0))), (.op (some 39) none (.lenS (.t 38))), (.op (some 40) none (.bin .eql (.t 39) (.c (.int .i64 0))))]) (.cond (.t 40) (.seq (.reg [(.op (some 4) none (.mv (.c
  (.string (bs [])))))]) .ret) .skip)) (.seq (.seq (.reg [(.op (some 41) none (.mv (.t 0))), (.op (some 42) none (.idS (.t 41) (.c (.int .i64 0))))]) (.block 1 (.seq (.seq
  (.reg [(.op (some 44) none (.bin .eql (.t 42) (.c (.int .u8 32)))), (.op (some 43) none (.mv (.t 44)))]) (.cond (.t 43) .skip (.seq (.reg [(.op (some 45) none (.bin .eql (.t 42)
  (.c (.int .u8 45)))), (.op (some 43) none (.mv (.t 45)))]) (.cond (.t 43) .skip (.seq (.reg [(.op (some 46) none (.bin .eql (.t 42) (.c (.int .u8 48)))), (.op (some 43) none
  (.mv (.t 46)))]) (.cond (.t 43) .skip (.seq (.reg [(.op (some 47) none (.bin .eql (.t 42) (.c (.int .u8 61)))), (.op (some 43) none (.mv (.t 47)))]) (.cond (.t 43) .skip
  (.reg [(.op (some 48) none (.bin .eql (.t 42) (.c (.int .u8 9)))), (.op (some 43) none (.mv (.t 48)))]))))))))) (.cond (.t 43) (.block 2 (.seq (.reg [(.op (some 50) none (.mv
  (.t 7))), (.op (some 51) none (.bin .leq (.t 50) (.c (.int .i64 128)))), (.op (some 52) none (.mv (.t 51))), (.op (some 53) (some (52, true)) (.mv (.t 0))),
  (.op (some 54) (some (52, true)) (.call 169 [(.c (.string (bs [32, 32, 32, 32, 32, 32, 32, 32, 32, 32, 32, 32, 32, 32, 32, 32, 32, 32, 32, 32, 32, 32, 32, 32, 32, 32, 32, 32,
  32, 32, 32, 32, 32, 32, 32, 32, 32, 32, 32, 32, 32, 32, 32, 32, 32, 32, 32, 32, 32, 32, 32, 32, 32, 32, 32, 32, 32, 32, 32, 32, 32, 32, 32, 32, 32, 32, 32, 32, 32, 32, 32, 32,
  32, 32, 32, 32, 32, 32, 32, 32, 32, 32, 32, 32, 32, 32, 32, 32, 32, 32, 32, 32, 32, 32, 32, 32, 32, 32, 32, 32, 32, 32, 32, 32, 32, 32, 32, 32, 32, 32, 32, 32, 32, 32, 32, 32,
  32, 32, 32, 32, 32, 32, 32, 32, 32, 32, 32, 32]))), (.t 53)])), (.op (some 55) none (.pick (.t 52) (.t 54) (.c (.bool false)))), (.op (some 49) none (.mv (.t 55)))]) (.cond
  (.t 49) (.seq (.reg [(.op (some 56) none (.mv (.t 7))), (.op (some 57) none (.slS (.c (.string (bs [32, 32, 32, 32, 32, 32, 32, 32, 32, 32, 32, 32, 32, 32, 32, 32, 32, 32, 32,
  32, 32, 32, 32, 32, 32, 32, 32, 32, 32, 32, 32, 32, 32, 32, 32, 32, 32, 32, 32, 32, 32, 32, 32, 32, 32, 32, 32, 32, 32, 32, 32, 32, 32, 32, 32, 32, 32, 32, 32, 32, 32, 32, 32,
  32, 32, 32, 32, 32, 32, 32, 32, 32, 32, 32, 32, 32, 32, 32, 32, 32, 32, 32, 32, 32, 32, 32, 32, 32, 32, 32, 32, 32, 32, 32, 32, 32, 32, 32, 32, 32, 32, 32, 32, 32, 32, 32, 32,
  32, 32, 32, 32, 32, 32, 32, 32, 32, 32, 32, 32, 32, 32, 32, 32, 32, 32, 32, 32, 32]))) none (some (.t 56)))), (.op (some 4) none (.mv (.t 57)))]) .ret) (.seq
  (.reg [(.op (some 59) none (.mv (.t 7))), (.op (some 60) none (.bin .leq (.t 59) (.c (.int .i64 128)))), (.op (some 61) none (.mv (.t 60))), (.op (some 62) (some (61, true))
  (.mv (.t 0))), (.op (some 63) (some (61, true)) (.call 169 [(.c (.string (bs [45, 45, 45, 45, 45, 45, 45, 45, 45, 45, 45, 45, 45, 45, 45, 45, 45, 45, 45, 45, 45, 45, 45, 45, 45,
  45, 45, 45, 45, 45, 45, 45, 45, 45, 45, 45, 45, 45, 45, 45, 45, 45, 45, 45, 45, 45, 45, 45, 45, 45, 45, 45, 45, 45, 45, 45, 45, 45, 45, 45, 45, 45, 45, 45, 45, 45, 45, 45, 45,
  45, 45, 45, 45, 45, 45, 45, 45, 45, 45, 45, 45, 45, 45, 45, 45, 45, 45, 45, 45, 45, 45, 45, 45, 45, 45, 45, 45, 45, 45, 45, 45, 45, 45, 45, 45, 45, 45, 45, 45, 45, 45, 45, 45,
  45, 45, 45, 45, 45, 45, 45, 45, 45, 45, 45, 45, 45, 45, 45]))), (.t 62)])), (.op (some 64) none (.pick (.t 61) (.t 63) (.c (.bool false)))), (.op (some 58) none (.mv (.t 64)))])
  (.cond (.t 58) (.seq (.reg [(.op (some 65) none (.mv (.t 7))), (.op (some 66) none (.slS (.c (.string (bs [45, 45, 45, 45, 45, 45, 45, 45, 45, 45, 45, 45, 45, 45, 45, 45, 45,
  45, 45, 45, 45, 45, 45, 45, 45, 45, 45, 45, 45, 45, 45, 45, 45, 45, 45, 45, 45, 45, 45, 45, 45, 45, 45, 45, 45, 45, 45, 45, 45, 45, 45, 45, 45, 45, 45, 45, 45, 45, 45, 45, 45,
  45, 45, 45, 45, 45, 45, 45, 45, 45, 45, 45, 45, 45, 45, 45, 45, 45, 45, 45, 45, 45, 45, 45, 45, 45, 45, 45, 45, 45, 45, 45, 45, 45, 45, 45, 45, 45, 45, 45, 45, 45, 45, 45, 45,
  45, 45, 45, 45, 45, 45, 45, 45, 45, 45, 45, 45, 45, 45, 45, 45, 45, 45, 45, 45, 45, 45, 45]))) none (some (.t 65)))), (.op (some 4) none (.mv (.t 66)))]) .ret) (.seq
  (.reg [(.op (some 68) none (.mv (.t 7))), (.op (some 69) none (.bin .leq (.t 68) (.c (.int .i64 64)))), (.op (some 70) none (.mv (.t 69))), (.op (some 71) (some (70, true)) (.mv
  (.t 0))), (.op (some 72) (some (70, true)) (.call 169 [(.c (.string (bs [48, 48, 48, 48, 48, 48, 48, 48, 48, 48, 48, 48, 48, 48, 48, 48, 48, 48, 48, 48, 48, 48, 48, 48, 48, 48,
  48, 48, 48, 48, 48, 48, 48, 48, 48, 48, 48, 48, 48, 48, 48, 48, 48, 48, 48, 48, 48, 48, 48, 48, 48, 48, 48, 48, 48, 48, 48, 48, 48, 48, 48, 48, 48, 48]))), (.t 71)])),
  (.op (some 73) none (.pick (.t 70) (.t 72) (.c (.bool false)))), (.op (some 67) none (.mv (.t 73)))]) (.cond (.t 67) (.seq (.reg [(.op (some 74) none (.mv (.t 7))),
  (.op (some 75) none (.slS (.c (.string (bs [48, 48, 48, 48, 48, 48, 48, 48, 48, 48, 48, 48, 48, 48, 48, 48, 48, 48, 48, 48, 48, 48, 48, 48, 48, 48, 48, 48, 48, 48, 48, 48, 48,
  48, 48, 48, 48, 48, 48, 48, 48, 48, 48, 48, 48, 48, 48, 48, 48, 48, 48, 48, 48, 48, 48, 48, 48, 48, 48, 48, 48, 48, 48, 48]))) none (some (.t 74)))), (.op (some 4) none (.mv
  (.t 75)))]) .ret) (.seq (.reg [(.op (some 77) none (.mv (.t 7))), (.op (some 78) none (.bin .leq (.t 77) (.c (.int .i64 128)))), (.op (some 79) none (.mv (.t 78))),
  (.op (some 80) (some (79, true)) (.mv (.t 0))), (.op (some 81) (some (79, true)) (.call 169 [(.c (.string (bs [61, 61, 61, 61, 61, 61, 61, 61, 61, 61, 61, 61, 61, 61, 61, 61,
  61, 61, 61, 61, 61, 61, 61, 61, 61, 61, 61, 61, 61, 61, 61, 61, 61, 61, 61, 61, 61, 61, 61, 61, 61, 61, 61, 61, 61, 61, 61, 61, 61, 61, 61, 61, 61, 61, 61, 61, 61, 61, 61, 61,
  61, 61, 61, 61, 61, 61, 61, 61, 61, 61, 61, 61, 61, 61, 61, 61, 61, 61, 61, 61, 61, 61, 61, 61, 61, 61, 61, 61, 61, 61, 61, 61, 61, 61, 61, 61, 61, 61, 61, 61, 61, 61, 61, 61,
  61, 61, 61, 61, 61, 61, 61, 61, 61, 61, 61, 61, 61, 61, 61, 61, 61, 61, 61, 61, 61, 61, 61, 61]))), (.t 80)])), (.op (some 82) none (.pick (.t 79) (.t 81) (.c (.bool false)))),
  (.op (some 76) none (.mv (.t 82)))]) (.cond (.t 76) (.seq (.reg [(.op (some 83) none (.mv (.t 7))), (.op (some 84) none (.slS (.c (.string (bs [61, 61, 61, 61, 61, 61, 61, 61,
  61, 61, 61, 61, 61, 61, 61, 61, 61, 61, 61, 61, 61, 61, 61, 61, 61, 61, 61, 61, 61, 61, 61, 61, 61, 61, 61, 61, 61, 61, 61, 61, 61, 61, 61, 61, 61, 61, 61, 61, 61, 61, 61, 61,
  61, 61, 61, 61, 61, 61, 61, 61, 61, 61, 61, 61, 61, 61, 61, 61, 61, 61, 61, 61, 61, 61, 61, 61, 61, 61, 61, 61, 61, 61, 61, 61, 61, 61, 61, 61, 61, 61, 61, 61, 61, 61, 61, 61,
  61, 61, 61, 61, 61, 61, 61, 61, 61, 61, 61, 61, 61, 61, 61, 61, 61, 61, 61, 61, 61, 61, 61, 61, 61, 61, 61, 61, 61, 61, 61, 61]))) none (some (.t 83)))), (.op (some 4) none (.mv
  (.t 84)))]) .ret) (.seq (.reg [(.op (some 86) none (.mv (.t 7))), (.op (some 87) none (.bin .leq (.t 86) (.c (.int .i64 64)))), (.op (some 88) none (.mv (.t 87))),
  (.op (some 89) (some (88, true)) (.mv (.t 0))), (.op (some 90) (some (88, true)) (.call 169 [(.c (.string (bs [9, 9, 9, 9, 9, 9, 9, 9, 9, 9, 9, 9, 9, 9, 9, 9, 9, 9, 9, 9, 9, 9,
  9, 9, 9, 9, 9, 9, 9, 9, 9, 9, 9, 9, 9, 9, 9, 9, 9, 9, 9, 9, 9, 9, 9, 9, 9, 9, 9, 9, 9, 9, 9, 9, 9, 9, 9, 9, 9, 9, 9, 9, 9, 9]))), (.t 89)])), (.op (some 91) none (.pick (.t 88)
  (.t 90) (.c (.bool false)))), (.op (some 85) none (.mv (.t 91)))]) (.cond (.t 85) (.seq (.reg [(.op (some 92) none (.mv (.t 7))), (.op (some 93) none (.slS (.c (.string (bs [9,
  9, 9, 9, 9, 9, 9, 9, 9, 9, 9, 9, 9, 9, 9, 9, 9, 9, 9, 9, 9, 9, 9, 9, 9, 9, 9, 9, 9, 9, 9, 9, 9, 9, 9, 9, 9, 9, 9, 9, 9, 9, 9, 9, 9, 9, 9, 9, 9, 9, 9, 9, 9, 9, 9, 9, 9, 9, 9, 9,
  9, 9, 9, 9]))) none (some (.t 92)))), (.op (some 4) none (.mv (.t 93)))]) .ret) .skip))))))))))) .skip)))) (.seq (.reg [(.op (some 94) none (.mv (.t 7))), (.op (some 8) none
  (.mv (.t 94)))]) (.seq (.seq (.reg [(.op (some 95) none (.mv (.t 7))), (.op (some 96) none (.bin .gtr (.t 95) (.c (.int .i64 8192))))]) (.cond (.t 96) (.seq
  (.reg [(.op (some 97) none (.mv (.t 0))), (.op (some 98) none (.lenS (.t 97))), (.op (some 99) none (.bin .quo (.c (.int .i64 8192)) (.t 98))), (.op (some 100) none (.mv
  (.t 0))), (.op (some 101) none (.lenS (.t 100))), (.op (some 102) none (.bin .mul (.t 99) (.t 101))), (.op (some 8) none (.mv (.t 102)))]) (.seq (.reg [(.op (some 103) none (.mv
  (.t 8))), (.op (some 104) none (.bin .eql (.t 103) (.c (.int .i64 0))))]) (.cond (.t 104) (.reg [(.op (some 105) none (.mv (.t 0))), (.op (some 106) none (.lenS (.t 105))),
  (.op (some 8) none (.mv (.t 106)))]) .skip))) .skip)) (.seq (.reg [(.op (some 9) none (.alloc 195 [(.pointer none), (.slice none 0 0)]))]) (.seq (.reg [(.op (some 107) none (.mv
  (.t 7))), (.op (some 108) none (.call 159 [(.t 9), (.t 107)]))]) (.seq (.reg [(.op (some 109) none (.mv (.t 0))), (.op (some 110) none (.call 160 [(.t 9), (.t 109)]))]) (.seq
  (.block 3 (.loop (.seq (.seq (.reg [(.op (some 111) none (.call 170 [(.t 9)])), (.op (some 112) none (.mv (.t 7))), (.op (some 113) none (.bin .lss (.t 111) (.t 112)))]) (.cond
  (.t 113) .skip (.exit 3))) (.block 4 (.seq (.reg [(.op (some 114) none (.mv (.t 7))), (.op (some 115) none (.call 170 [(.t 9)])), (.op (some 116) none (.bin .sub (.t 114)
  (.t 115))), (.op (some 117) none (.call 170 [(.t 9)])), (.op (some 118) none (.mv (.t 8))), (.op (some 119) none (.mn (.t 116) [(.t 117), (.t 118)])), (.op (some 10) none (.mv
  (.t 119)))]) (.reg [(.op (some 120) none (.call 161 [(.t 9)])), (.op (some 121) none (.mv (.t 10))), (.op (some 122) none (.slS (.t 120) none (some (.t 121)))),
  (.op (some 123) none (.call 160 [(.t 9), (.t 122)]))])))))) (.seq (.reg [(.op (some 124) none (.call 161 [(.t 9)])), (.op (some 4) none (.mv (.t 124)))]) .ret))))))))))))))),
  [(.t 4)]⟩
def k144 : KFunc := ⟨31, (.seq (.reg [(.op (some 4) none (.mv (.c (.string (bs []))))), (.op (some 5) none (.mv (.c (.bool false))))]) (.seq (.reg [(.op (some 11) none (.mv
  (.t 0))), (.op (some 12) none (.call 39 [(.t 11)])), (.op (some 10) none (.mv (.t 12))), (.op (some 13) none (.xt (.t 10) 0)), (.op (some 14) none (.xt (.t 10) 1)),
  (.op (some 6) none (.mv (.t 13))), (.op (some 7) none (.mv (.t 14)))]) (.seq (.seq (.reg [(.op (some 15) none (.mv (.t 7))), (.op (some 16) none (.un .not (.t 15)))]) (.cond
  (.t 16) (.seq (.reg [(.op (some 4) none (.mv (.c (.string (bs []))))), (.op (some 5) none (.mv (.c (.bool false))))]) .ret) .skip)) (.seq (.reg [(.op (some 17) none (.mv
  (.t 0))), (.op (some 18) none (.call 148 [(.t 17), (.c (.int .i64 1048576))])), (.op (some 8) none (.mv (.t 18)))]) (.seq (.seq (.reg [(.op (some 19) none (.mv (.t 0))),
  (.op (some 20) none (.call 111 [(.t 19)]))]) (.cond (.t 20) (.seq (.reg [(.op (some 4) none (.mv (.c (.string (bs []))))), (.op (some 5) none (.mv (.c
  (.bool false))))]) .ret) .skip)) (.seq (.reg [(.op (some 22) none (.mv (.t 6))), (.op (some 23) none (.mv (.t 8))), (.op (some 24) none (.mv (.t 1))), (.op (some 25) none
  (.call 33 [(.t 22), (.t 23), (.t 24)])), (.op (some 21) none (.mv (.t 25))), (.op (some 26) none (.xt (.t 21) 0)), (.op (some 27) none (.xt (.t 21) 1)), (.op (some 9) none (.mv
  (.t 26))), (.op (some 7) none (.mv (.t 27)))]) (.seq (.reg [(.op (some 28) none (.mv (.t 9))), (.op (some 29) none (.b2s 5 (.t 28))), (.op (some 30) none (.mv (.t 7))),
  (.op (some 4) none (.mv (.t 29))), (.op (some 5) none (.mv (.t 30)))]) .ret))))))), [(.t 4), (.t 5)]⟩
def k147 : KFunc := ⟨6, (.seq (.reg [(.op (some 2) none (.mv (.c (.int .i64 0))))]) (.seq (.reg [(.op (some 3) none (.mv (.t 0))), (.op (some 4) none (.mx (.t 3) [(.c
  (.int .i64 0))])), (.op (some 5) none (.mn (.t 4) [(.c (.int .i64 8))])), (.op (some 2) none (.mv (.t 5)))]) .ret)), [(.t 2)]⟩
def k148 : KFunc := ⟨10, (.seq (.reg [(.op (some 4) none (.mv (.c (.string (bs [])))))]) (.seq (.reg [(.op (some 5) none (.mv (.t 0))), (.op (some 6) none (.mv (.t 0))),
  (.op (some 7) none (.mv (.t 1))), (.op (some 8) none (.call 142 [(.t 6), (.t 7)])), (.op (some 9) none (.call 110 [(.t 5), (.t 8)])), (.op (some 4) none (.mv (.t 9)))]) .ret)),
  [(.t 4)]⟩
def k149 : KFunc := ⟨9, (.seq (.reg [(.op (some 2) none (.mv (.c (.bool false))))]) (.seq (.reg [(.op (some 3) none (.mv (.t 0))), (.op (some 4) none (.bin .geq (.t 3) (.c
  (.int .i64 0)))), (.op (some 5) none (.mv (.t 4))), (.op (some 6) (some (5, true)) (.mv (.t 0))), (.op (some 7) (some (5, true)) (.bin .leq (.t 6) (.c (.int .i64 32)))),
  (.op (some 8) none (.pick (.t 5) (.t 7) (.c (.bool false)))), (.op (some 2) none (.mv (.t 8)))]) .ret)), [(.t 2)]⟩
def k150 : KFunc := ⟨21, (.seq (.reg [(.op (some 4) none (.mv (.c (.slice none 0 0))))]) (.seq (.reg [(.op (some 5) none (.mv (.c (.slice none 0 0))))]) (.seq (.seq
  (.reg [(.op (some 6) none (.mv (.c (.int .i64 0))))]) (.block 0 (.loop (.seq (.seq (.reg [(.op (some 7) none (.mv (.t 6))), (.op (some 8) none (.mv (.t 1))), (.op (some 9) none
  (.bin .lss (.t 7) (.t 8)))]) (.cond (.t 9) .skip (.exit 0))) (.seq (.block 1 (.reg [(.op (some 12) none (.mv (.t 5))), (.op (some 13) none (.mv (.t 0))), (.op (some 14) none
  (.mv (.t 6))), (.op (some 15) none (.bin .shr (.t 13) (.t 14))), (.op (some 16) none (.cvt .i64 (.t 15))), (.op (some 17) none (.bin .rem (.t 16) (.c (.int .i64 2)))),
  (.op (some 18) none (.bsl 3 1 [(.int .i64 0)] [(0, (1, (.t 17)))])), (.op (some 19) none (.app 3 1 8 (.t 12) (.t 18))), (.op (some 5) none (.mv (.t 19)))]))
  (.reg [(.op (some 10) none (.mv (.t 6))), (.op (some 11) none (.bin .add (.t 10) (.c (.int .i64 1)))), (.op (some 6) none (.mv (.t 11)))])))))) (.seq (.reg [(.op (some 20) none
  (.mv (.t 5))), (.op (some 4) none (.mv (.t 20)))]) .ret)))), [(.t 4)]⟩
def k151 : KFunc := ⟨10, (.seq (.reg [(.op (some 2) none (.mv (.t 0))), (.op (some 3) none (.eqv .ptr true (.t 2) (.c (.pointer none))))]) (.cond (.t 3) (.reg [(.op (some 4) none
  (.mv (.t 0))), (.op (some 5) none (.mv (.t 0))), (.op (some 6) none (.nck (.t 4))), (.op (some 7) none (.fad 0 (.t 6))), (.op none none (.st (.t 7) (.c (.string (bs []))))),
  (.op (some 8) none (.nck (.t 5))), (.op (some 9) none (.fad 1 (.t 8))), (.op none none (.st (.t 9) (.c (.bool true))))]) .skip)), []⟩
def k152 : KFunc := ⟨63, (.seq (.reg [(.op (some 6) none (.mv (.c (.int .i64 20))))]) (.seq (.reg [(.op (some 10) none (.mv (.t 6))), (.op (some 7) none (.mv (.c (.int .i64 0)))),
  (.op (some 8) none (.mv (.t 10)))]) (.seq (.block 0 (.loop (.seq (.seq (.reg [(.op (some 11) none (.mv (.t 8))), (.op (some 12) none (.mv (.t 1))), (.op (some 13) none
  (.bin .leq (.t 11) (.t 12)))]) (.cond (.t 13) .skip (.exit 0))) (.block 1 (.seq (.reg [(.op (some 14) none (.mv (.t 0))), (.op (some 15) none (.mv (.t 7))), (.op (some 16) none
  (.mv (.t 8))), (.op (some 17) none (.mv (.t 2))), (.op (some 18) none (.call 171 [(.t 14), (.t 15), (.t 16), (.t 17)]))]) (.seq (.reg [(.op (some 19) none (.mv (.t 8))),
  (.op (some 7) none (.mv (.t 19)))]) (.reg [(.op (some 20) none (.mv (.t 8))), (.op (some 21) none (.mv (.t 6))), (.op (some 22) none (.bin .add (.t 20) (.t 21))),
  (.op (some 8) none (.mv (.t 22)))]))))))) (.seq (.reg [(.op (some 23) none (.mv (.t 0))), (.op (some 24) none (.mv (.t 7))), (.op (some 25) none (.mv (.t 1))),
  (.op (some 26) none (.mv (.t 2))), (.op (some 27) none (.call 171 [(.t 23), (.t 24), (.t 25), (.t 26)]))]) (.block 2 (.loop (.seq (.seq (.reg [(.op (some 28) none (.mv (.t 6))),
  (.op (some 29) none (.mv (.t 1))), (.op (some 30) none (.bin .lss (.t 28) (.t 29)))]) (.cond (.t 30) .skip (.exit 2))) (.block 3 (.seq (.reg [(.op (some 31) none (.mv (.t 6))),
  (.op (some 32) none (.bin .mul (.c (.int .i64 2)) (.t 31))), (.op (some 7) none (.mv (.c (.int .i64 0)))), (.op (some 8) none (.mv (.t 32)))]) (.seq (.block 4 (.loop (.seq (.seq
  (.reg [(.op (some 33) none (.mv (.t 8))), (.op (some 34) none (.mv (.t 1))), (.op (some 35) none (.bin .leq (.t 33) (.t 34)))]) (.cond (.t 35) .skip (.exit 4))) (.block 5 (.seq
  (.reg [(.op (some 36) none (.mv (.t 0))), (.op (some 37) none (.mv (.t 7))), (.op (some 38) none (.mv (.t 7))), (.op (some 39) none (.mv (.t 6))), (.op (some 40) none (.bin .add
  (.t 38) (.t 39))), (.op (some 41) none (.mv (.t 8))), (.op (some 42) none (.mv (.t 2))), (.op (some 43) none (.call 172 [(.t 36), (.t 37), (.t 40), (.t 41), (.t 42)]))]) (.seq
  (.reg [(.op (some 44) none (.mv (.t 8))), (.op (some 7) none (.mv (.t 44)))]) (.reg [(.op (some 45) none (.mv (.t 8))), (.op (some 46) none (.mv (.t 6))), (.op (some 47) none
  (.bin .mul (.c (.int .i64 2)) (.t 46))), (.op (some 48) none (.bin .add (.t 45) (.t 47))), (.op (some 8) none (.mv (.t 48)))]))))))) (.seq (.seq (.reg [(.op (some 49) none (.mv
  (.t 7))), (.op (some 50) none (.mv (.t 6))), (.op (some 51) none (.bin .add (.t 49) (.t 50))), (.op (some 9) none (.mv (.t 51)))]) (.seq (.reg [(.op (some 52) none (.mv
  (.t 9))), (.op (some 53) none (.mv (.t 1))), (.op (some 54) none (.bin .lss (.t 52) (.t 53)))]) (.cond (.t 54) (.reg [(.op (some 55) none (.mv (.t 0))), (.op (some 56) none (.mv
  (.t 7))), (.op (some 57) none (.mv (.t 9))), (.op (some 58) none (.mv (.t 1))), (.op (some 59) none (.mv (.t 2))), (.op (some 60) none (.call 172 [(.t 55), (.t 56), (.t 57),
  (.t 58), (.t 59)]))]) .skip))) (.reg [(.op (some 61) none (.mv (.t 6))), (.op (some 62) none (.bin .mul (.t 61) (.c (.int .i64 2)))), (.op (some 6) none (.mv
  (.t 62)))])))))))))))), []⟩
def k153 : KFunc := ⟨6, (.seq (.reg [(.op (some 2) none (.mv (.c (.bool false))))]) (.seq (.reg [(.op (some 3) none (.mv (.t 0))), (.op (some 4) none (.mv (.t 0))),
  (.op (some 5) none (.bin .neq (.t 3) (.t 4))), (.op (some 2) none (.mv (.t 5)))]) .ret)), [(.t 2)]⟩
def k155 : KFunc := ⟨17, (.seq (.reg [(.op (some 4) none (.mv (.t 0))), (.op (some 5) none (.inv (.t 4) "Len" [])), (.op (some 2) none (.mv (.t 5)))]) (.seq
  (.reg [(.op (some 6) none (.mv (.t 2))), (.op (some 7) none (.bin .quo (.t 6) (.c (.int .i64 2)))), (.op (some 8) none (.bin .sub (.t 7) (.c (.int .i64 1)))), (.op (some 3) none
  (.mv (.t 8)))]) (.block 0 (.loop (.seq (.seq (.reg [(.op (some 9) none (.mv (.t 3))), (.op (some 10) none (.bin .geq (.t 9) (.c (.int .i64 0))))]) (.cond (.t 10) .skip
  (.exit 0))) (.seq (.block 1 (.reg [(.op (some 13) none (.mv (.t 0))), (.op (some 14) none (.mv (.t 3))), (.op (some 15) none (.mv (.t 2))), (.op (some 16) none
  (.call 173 [(.t 13), (.t 14), (.t 15)]))])) (.reg [(.op (some 11) none (.mv (.t 3))), (.op (some 12) none (.bin .sub (.t 11) (.c (.int .i64 1)))), (.op (some 3) none (.mv
  (.t 12)))]))))))), []⟩
def k157 : KFunc := ⟨15, (.seq (.reg [(.op (some 2) none (.mv (.c .nilIface)))]) (.seq (.reg [(.op (some 4) none (.mv (.t 0))), (.op (some 5) none (.inv (.t 4) "Len" [])),
  (.op (some 6) none (.bin .sub (.t 5) (.c (.int .i64 1)))), (.op (some 3) none (.mv (.t 6)))]) (.seq (.reg [(.op (some 7) none (.mv (.t 0))), (.op (some 8) none (.mv (.t 3))),
  (.op (some 9) none (.inv (.t 7) "Swap" [(.c (.int .i64 0)), (.t 8)]))]) (.seq (.reg [(.op (some 10) none (.mv (.t 0))), (.op (some 11) none (.mv (.t 3))), (.op (some 12) none
  (.call 173 [(.t 10), (.c (.int .i64 0)), (.t 11)]))]) (.seq (.reg [(.op (some 13) none (.mv (.t 0))), (.op (some 14) none (.inv (.t 13) "Pop" [])), (.op (some 2) none (.mv
  (.t 14)))]) .ret))))), [(.t 2)]⟩
def k158 : KFunc := ⟨12, (.seq (.reg [(.op (some 4) none (.mv (.t 0))), (.op (some 5) none (.mv (.t 1))), (.op (some 6) none (.inv (.t 4) "Push" [(.t 5)]))])
  (.reg [(.op (some 7) none (.mv (.t 0))), (.op (some 8) none (.mv (.t 0))), (.op (some 9) none (.inv (.t 8) "Len" [])), (.op (some 10) none (.bin .sub (.t 9) (.c
  (.int .i64 1)))), (.op (some 11) none (.call 174 [(.t 7), (.t 10)]))])), []⟩
def k159 : KFunc := ⟨25, (.seq (.reg [(.op (some 4) none (.mv (.t 0))), (.op (some 5) none (.call 175 [(.t 4)]))]) (.seq (.seq (.reg [(.op (some 6) none (.mv (.t 1))),
  (.op (some 7) none (.bin .lss (.t 6) (.c (.int .i64 0))))]) (.cond (.t 7) (.reg [(.op (some 8) none (.mki 9 (.c (.string (bs [115, 116, 114, 105, 110, 103, 115, 46, 66, 117,
  105, 108, 100, 101, 114, 46, 71, 114, 111, 119, 58, 32, 110, 101, 103, 97, 116, 105, 118, 101, 32, 99, 111, 117, 110, 116]))))), (.op none none .nev)]) .skip)) (.seq
  (.reg [(.op (some 9) none (.mv (.t 0))), (.op (some 10) none (.nck (.t 9))), (.op (some 11) none (.fad 1 (.t 10))), (.op (some 12) none (.ld (.t 11))), (.op (some 14) none (.mv
  (.t 0))), (.op (some 15) none (.nck (.t 14))), (.op (some 16) none (.fad 1 (.t 15))), (.op (some 17) none (.ld (.t 16))), (.op (some 18) none (.lenL (.t 17))),
  (.op (some 20) none (.mv (.t 1))), (.op (some 13) none .nev), (.chk 17 none (.ld (.t 16))), (.op (some 19) none (.bin .sub (.t 13) (.t 18))), (.op (some 21) none (.bin .lss
  (.t 19) (.t 20)))]) (.cond (.t 21) (.reg [(.op (some 22) none (.mv (.t 0))), (.op (some 23) none (.mv (.t 1))), (.op (some 24) none (.call 176 [(.t 22), (.t 23)]))]) .skip)))),
  []⟩
def k160 : KFunc := ⟨19, (.seq (.reg [(.op (some 4) none (.mv (.c (.int .i64 0)))), (.op (some 5) none (.mv (.c .nilIface)))]) (.seq (.reg [(.op (some 6) none (.mv (.t 0))),
  (.op (some 7) none (.call 175 [(.t 6)]))]) (.seq (.reg [(.op (some 8) none (.mv (.t 0))), (.op (some 9) none (.mv (.t 0))), (.op (some 10) none (.nck (.t 9))),
  (.op (some 11) none (.fad 1 (.t 10))), (.op (some 12) none (.ld (.t 11))), (.op (some 13) none (.mv (.t 1))), (.op (some 14) none (.appS 5 (.t 12) (.t 13))), (.op (some 15) none
  (.nck (.t 8))), (.op (some 16) none (.fad 1 (.t 15))), (.op none none (.st (.t 16) (.t 14)))]) (.seq (.reg [(.op (some 17) none (.mv (.t 1))), (.op (some 18) none (.lenS
  (.t 17))), (.op (some 4) none (.mv (.t 18))), (.op (some 5) none (.mv (.c .nilIface)))]) .ret)))), [(.t 4), (.t 5)]⟩
def k161 : KFunc := ⟨14, (.seq (.reg [(.op (some 2) none (.mv (.c (.string (bs [])))))]) (.seq (.reg [(.op (some 3) none (.mv (.t 0))), (.op (some 4) none (.nck (.t 3))),
  (.op (some 5) none (.fad 1 (.t 4))), (.op (some 6) none (.ld (.t 5))), (.op (some 8) none (.mv (.t 0))), (.op (some 9) none (.nck (.t 8))), (.op (some 10) none (.fad 1 (.t 9))),
  (.op (some 11) none (.ld (.t 10))), (.op (some 12) none (.lenL (.t 11))), (.op (some 7) none .nev), (.chk 11 none (.ld (.t 10))), (.op (some 13) none .nev), (.op (some 2) none
  (.mv (.t 13)))]) .ret)), [(.t 2)]⟩
def k162 : KFunc := ⟨17, (.seq (.reg [(.op (some 2) none (.mv (.c (.int .i64 0))))]) (.seq (.reg [(.op (some 3) none (.mv (.c (.int .i64 0))))]) (.seq (.seq
  (.reg [(.op (some 6) none (.mv (.t 0))), (.op (some 7) none (.lenL (.t 6))), (.op (some 8) none (.mv (.c (.int .i64 0))))]) (.block 0 (.loop (.seq (.reg [(.op (some 9) none
  (.bin .lss (.t 8) (.t 7)))]) (.seq (.cond (.t 9) .skip (.exit 0)) (.seq (.block 1 (.seq (.reg [(.op (some 10) none (.iad 1 (.t 6) (.t 8))), (.op (some 11) none (.ld (.t 10))),
  (.op (some 5) none (.mv (.t 11)))]) (.reg [(.op (some 12) none (.mv (.t 3))), (.op (some 13) none (.mv (.t 5))), (.op (some 14) none (.bin .add (.t 12) (.t 13))),
  (.op (some 3) none (.mv (.t 14)))]))) (.reg [(.op (some 15) none (.bin .add (.t 8) (.c (.int .i64 1)))), (.op (some 8) none (.mv (.t 15)))]))))))) (.seq
  (.reg [(.op (some 16) none (.mv (.t 3))), (.op (some 2) none (.mv (.t 16)))]) .ret)))), [(.t 2)]⟩
def k163 : KFunc := ⟨5, (.seq (.reg [(.op (some 2) none (.mv (.c (.int .i64 0))))]) (.seq (.reg [(.op (some 3) none (.mv (.t 0))), (.op (some 4) none (.lenL (.t 3))),
  (.op (some 2) none (.mv (.t 4)))]) .ret)), [(.t 2)]⟩
def k164 : KFunc := ⟨13, (.seq (.reg [(.op (some 2) none (.mv (.c (.pointer none))))]) (.seq (.reg [(.op (some 6) none (.mv (.t 0))), (.op (some 7) none (.mki 201 (.t 6))),
  (.op (some 8) none (.call 157 [(.t 7)])), (.op (some 9) none (.tas 159 (.pointer none) true (.t 8))), (.op (some 5) none (.mv (.t 9))), (.op (some 10) none (.xt (.t 5) 0)),
  (.op (some 11) none (.xt (.t 5) 1)), (.op (some 3) none (.mv (.t 10))), (.op (some 4) none (.mv (.t 11)))]) (.seq (.reg [(.op (some 12) none (.mv (.t 3))), (.op (some 2) none
  (.mv (.t 12)))]) .ret))), [(.t 2)]⟩
def k165 : KFunc := ⟨5, (.seq (.reg [(.op (some 2) none (.mv (.c (.int .i64 0))))]) (.seq (.reg [(.op (some 3) none (.mv (.t 0))), (.op (some 4) none (.call 177 [(.t 3)])),
  (.op (some 2) none (.mv (.t 4)))]) .ret)), [(.t 2)]⟩
def k166 : KFunc := ⟨15, (.seq (.reg [(.op (some 5) none (.mv (.c (.int .i64 0))))]) (.seq (.reg [(.op (some 6) none (.ld (.t 2))), (.op (some 7) none (.mv (.t 1))),
  (.op (some 8) none (.iad 1 (.t 6) (.t 7))), (.op (some 9) none (.ld (.t 8))), (.op (some 10) none (.ld (.t 2))), (.op (some 11) none (.mv (.t 0))), (.op (some 12) none (.iad 1
  (.t 10) (.t 11))), (.op (some 13) none (.ld (.t 12))), (.op (some 14) none (.call 118 [(.t 9), (.t 13)])), (.op (some 5) none (.mv (.t 14)))]) .ret)), [(.t 5)]⟩
def k167 : KFunc := ⟨44, (.seq (.reg [(.op (some 2) none (.mv (.c (.int .u64 0))))]) (.seq (.reg [(.op (some 3) none (.mv (.c (.int .u64 0))))]) (.seq (.seq
  (.reg [(.op (some 7) none (.mv (.c (.int .i64 0))))]) (.block 0 (.loop (.seq (.reg [(.op (some 8) none (.bin .lss (.t 7) (.c (.int .i64 10))))]) (.seq (.cond (.t 8) .skip
  (.exit 0)) (.seq (.block 1 (.seq (.reg [(.op (some 9) none (.mv (.t 7))), (.op (some 4) none (.mv (.t 9)))]) (.seq (.reg [(.op (some 10) none (.mv (.t 0))), (.op (some 11) none
  (.call 110 [(.t 10), (.c (.int .i64 1))])), (.op (some 5) none (.mv (.t 11)))]) (.seq (.seq (.reg [(.op (some 12) none (.mv (.t 5))), (.op (some 13) none (.bin .eql (.t 12) (.c
  (.string (bs [])))))]) (.cond (.t 13) (.seq (.reg [(.op (some 2) none (.mv (.c (.int .u64 0))))]) .ret) .skip)) (.seq (.reg [(.op (some 14) none (.mv (.t 5))),
  (.op (some 15) none (.idS (.t 14) (.c (.int .i64 0)))), (.op (some 16) none (.cvt .u64 (.t 15))), (.op (some 6) none (.mv (.t 16)))]) (.seq (.seq (.reg [(.op (some 17) none (.mv
  (.t 4))), (.op (some 18) none (.bin .eql (.t 17) (.c (.int .i64 9)))), (.op (some 19) none (.mv (.t 18))), (.op (some 20) (some (19, true)) (.mv (.t 6))),
  (.op (some 21) (some (19, true)) (.bin .gtr (.t 20) (.c (.int .u64 1)))), (.op (some 22) none (.pick (.t 19) (.t 21) (.c (.bool false)))), (.op (some 23) none (.mv (.t 22))),
  (.op (some 24) (some (23, false)) (.mv (.t 4))), (.op (some 25) (some (23, false)) (.bin .gtr (.t 24) (.c (.int .i64 0)))), (.op (some 26) (some (23, false)) (.mv (.t 25))),
  (.op (some 27) (some (26, true)) (.mv (.t 6))), (.op (some 28) (some (26, true)) (.bin .eql (.t 27) (.c (.int .u64 0)))), (.op (some 29) (some (23, false)) (.pick (.t 26)
  (.t 28) (.c (.bool false)))), (.op (some 30) none (.pick (.t 23) (.c (.bool true)) (.t 29)))]) (.cond (.t 30) (.exit 0) .skip)) (.seq (.reg [(.op (some 31) none (.mv (.t 3))),
  (.op (some 32) none (.mv (.t 6))), (.op (some 33) none (.bin .and (.t 32) (.c (.int .u64 127)))), (.op (some 34) none (.mv (.t 4))), (.op (some 35) none (.bin .mul (.c
  (.int .i64 7)) (.t 34))), (.op (some 36) none (.bin .shl (.t 33) (.t 35))), (.op (some 37) none (.bin .or (.t 31) (.t 36))), (.op (some 3) none (.mv (.t 37)))]) (.seq
  (.reg [(.op (some 38) none (.mv (.t 6))), (.op (some 39) none (.bin .lss (.t 38) (.c (.int .u64 128))))]) (.cond (.t 39) (.seq (.reg [(.op (some 40) none (.mv (.t 3))),
  (.op (some 2) none (.mv (.t 40)))]) .ret) .skip))))))))) (.reg [(.op (some 41) none (.bin .add (.t 7) (.c (.int .i64 1)))), (.op (some 7) none (.mv (.t 41)))]))))))) (.seq
  (.reg [(.op (some 42) none (.mv (.t 0))), (.op (some 43) none (.call 151 [(.t 42)]))]) (.seq (.reg [(.op (some 2) none (.mv (.c (.int .u64 0))))]) .ret))))), [(.t 2)]⟩
def k168 : KFunc := ⟨30, (.seq (.reg [(.op (some 4) none (.mv (.c (.int .u64 0)))), (.op (some 5) none (.mv (.c (.int .u64 0))))]) (.seq (.cond (.c (.bool false)) (.seq
  (.reg [(.op (some 11) none (.mv (.t 0))), (.op (some 12) none (.cvt .u32 (.t 11))), (.op (some 13) none (.mv (.t 1))), (.op (some 14) none (.cvt .u32 (.t 13))),
  (.op (some 15) none (.call 178 [(.t 12), (.t 14)])), (.op (some 10) none (.mv (.t 15))), (.op (some 16) none (.xt (.t 10) 0)), (.op (some 17) none (.xt (.t 10) 1)),
  (.op (some 6) none (.mv (.t 16))), (.op (some 7) none (.mv (.t 17)))]) (.seq (.reg [(.op (some 18) none (.mv (.t 6))), (.op (some 19) none (.cvt .u64 (.t 18))),
  (.op (some 20) none (.mv (.t 7))), (.op (some 21) none (.cvt .u64 (.t 20))), (.op (some 4) none (.mv (.t 19))), (.op (some 5) none (.mv (.t 21)))]) .ret)) .skip) (.seq
  (.reg [(.op (some 23) none (.mv (.t 0))), (.op (some 24) none (.mv (.t 1))), (.op (some 25) none (.call 179 [(.t 23), (.t 24)])), (.op (some 22) none (.mv (.t 25))),
  (.op (some 26) none (.xt (.t 22) 0)), (.op (some 27) none (.xt (.t 22) 1)), (.op (some 8) none (.mv (.t 26))), (.op (some 9) none (.mv (.t 27)))]) (.seq
  (.reg [(.op (some 28) none (.mv (.t 8))), (.op (some 29) none (.mv (.t 9))), (.op (some 4) none (.mv (.t 28))), (.op (some 5) none (.mv (.t 29)))]) .ret)))), [(.t 4), (.t 5)]⟩
def k169 : KFunc := ⟨8, (.seq (.reg [(.op (some 4) none (.mv (.c (.bool false))))]) (.seq (.reg [(.op (some 5) none (.mv (.t 0))), (.op (some 6) none (.mv (.t 1))),
  (.op (some 7) none (.call 180 [(.t 5), (.t 6)])), (.op (some 4) none (.mv (.t 7)))]) .ret)), [(.t 4)]⟩
def k170 : KFunc := ⟨8, (.seq (.reg [(.op (some 2) none (.mv (.c (.int .i64 0))))]) (.seq (.reg [(.op (some 3) none (.mv (.t 0))), (.op (some 4) none (.nck (.t 3))),
  (.op (some 5) none (.fad 1 (.t 4))), (.op (some 6) none (.ld (.t 5))), (.op (some 7) none (.lenL (.t 6))), (.op (some 2) none (.mv (.t 7)))]) .ret)), [(.t 2)]⟩
def k171 : KFunc := ⟨53, (.seq (.reg [(.op (some 10) none (.mv (.t 1))), (.op (some 11) none (.bin .add (.t 10) (.c (.int .i64 1)))), (.op (some 8) none (.mv (.t 11)))]) (.block 0
  (.loop (.seq (.seq (.reg [(.op (some 12) none (.mv (.t 8))), (.op (some 13) none (.mv (.t 2))), (.op (some 14) none (.bin .lss (.t 12) (.t 13)))]) (.cond (.t 14) .skip
  (.exit 0))) (.seq (.block 1 (.seq (.reg [(.op (some 17) none (.mv (.t 8))), (.op (some 9) none (.mv (.t 17)))]) (.block 2 (.loop (.seq (.seq (.reg [(.op (some 18) none (.mv
  (.t 9))), (.op (some 19) none (.mv (.t 1))), (.op (some 20) none (.bin .gtr (.t 18) (.t 19))), (.op (some 21) none (.mv (.t 20))), (.op (some 22) (some (21, true)) (.mv
  (.t 3))), (.op (some 23) (some (21, true)) (.mv (.t 0))), (.op (some 24) (some (21, true)) (.mv (.t 9))), (.op (some 25) (some (21, true)) (.iad 1 (.t 23) (.t 24))),
  (.op (some 26) (some (21, true)) (.ld (.t 25))), (.op (some 27) (some (21, true)) (.mv (.t 0))), (.op (some 28) (some (21, true)) (.mv (.t 9))), (.op (some 29) (some (21, true))
  (.bin .sub (.t 28) (.c (.int .i64 1)))), (.op (some 30) (some (21, true)) (.iad 1 (.t 27) (.t 29))), (.op (some 31) (some (21, true)) (.ld (.t 30))), (.op (some 32) (some (21,
  true)) (.callv (.t 22) [(.t 26), (.t 31)])), (.op (some 33) (some (21, true)) (.bin .lss (.t 32) (.c (.int .i64 0)))), (.op (some 34) none (.pick (.t 21) (.t 33) (.c
  (.bool false))))]) (.cond (.t 34) .skip (.exit 2))) (.seq (.block 3 (.reg [(.op (some 37) none (.mv (.t 0))), (.op (some 38) none (.mv (.t 9))), (.op (some 39) none (.mv
  (.t 0))), (.op (some 40) none (.mv (.t 9))), (.op (some 41) none (.bin .sub (.t 40) (.c (.int .i64 1)))), (.op (some 42) none (.mv (.t 0))), (.op (some 43) none (.mv (.t 9))),
  (.op (some 44) none (.bin .sub (.t 43) (.c (.int .i64 1)))), (.op (some 45) none (.iad 1 (.t 42) (.t 44))), (.op (some 46) none (.ld (.t 45))), (.op (some 47) none (.mv
  (.t 0))), (.op (some 48) none (.mv (.t 9))), (.op (some 49) none (.iad 1 (.t 47) (.t 48))), (.op (some 50) none (.ld (.t 49))), (.op (some 51) none (.iad 1 (.t 37) (.t 38))),
  (.op none none (.st (.t 51) (.t 46))), (.op (some 52) none (.iad 1 (.t 39) (.t 41))), (.op none none (.st (.t 52) (.t 50)))])) (.reg [(.op (some 35) none (.mv (.t 9))),
  (.op (some 36) none (.bin .sub (.t 35) (.c (.int .i64 1)))), (.op (some 9) none (.mv (.t 36)))]))))))) (.reg [(.op (some 15) none (.mv (.t 8))), (.op (some 16) none (.bin .add
  (.t 15) (.c (.int .i64 1)))), (.op (some 8) none (.mv (.t 16)))])))))), []⟩
def k172 : KFunc := ⟨220, (.seq (.seq (.reg [(.op (some 25) none (.mv (.t 2))), (.op (some 26) none (.mv (.t 1))), (.op (some 27) none (.bin .sub (.t 25) (.t 26))),
  (.op (some 28) none (.bin .eql (.t 27) (.c (.int .i64 1))))]) (.cond (.t 28) (.seq (.reg [(.op (some 29) none (.mv (.t 2))), (.op (some 10) none (.mv (.t 29)))]) (.seq
  (.reg [(.op (some 30) none (.mv (.t 3))), (.op (some 11) none (.mv (.t 30)))]) (.seq (.block 0 (.loop (.seq (.seq (.reg [(.op (some 31) none (.mv (.t 10))), (.op (some 32) none
  (.mv (.t 11))), (.op (some 33) none (.bin .lss (.t 31) (.t 32)))]) (.cond (.t 33) .skip (.exit 0))) (.block 1 (.seq (.reg [(.op (some 34) none (.mv (.t 10))),
  (.op (some 35) none (.mv (.t 11))), (.op (some 36) none (.bin .add (.t 34) (.t 35))), (.op (some 37) none (.cvt .u64 (.t 36))), (.op (some 38) none (.bin .shr (.t 37) (.c
  (.int .u64 1)))), (.op (some 39) none (.cvt .i64 (.t 38))), (.op (some 12) none (.mv (.t 39)))]) (.seq (.reg [(.op (some 40) none (.mv (.t 4))), (.op (some 41) none (.mv
  (.t 0))), (.op (some 42) none (.mv (.t 12))), (.op (some 43) none (.iad 1 (.t 41) (.t 42))), (.op (some 44) none (.ld (.t 43))), (.op (some 45) none (.mv (.t 0))),
  (.op (some 46) none (.mv (.t 1))), (.op (some 47) none (.iad 1 (.t 45) (.t 46))), (.op (some 48) none (.ld (.t 47))), (.op (some 49) none (.callv (.t 40) [(.t 44), (.t 48)])),
  (.op (some 50) none (.bin .lss (.t 49) (.c (.int .i64 0))))]) (.cond (.t 50) (.reg [(.op (some 51) none (.mv (.t 12))), (.op (some 52) none (.bin .add (.t 51) (.c
  (.int .i64 1)))), (.op (some 10) none (.mv (.t 52)))]) (.reg [(.op (some 53) none (.mv (.t 12))), (.op (some 11) none (.mv (.t 53)))])))))))) (.seq (.seq
  (.reg [(.op (some 54) none (.mv (.t 1))), (.op (some 13) none (.mv (.t 54)))]) (.block 2 (.loop (.seq (.seq (.reg [(.op (some 55) none (.mv (.t 13))), (.op (some 56) none (.mv
  (.t 10))), (.op (some 57) none (.bin .sub (.t 56) (.c (.int .i64 1)))), (.op (some 58) none (.bin .lss (.t 55) (.t 57)))]) (.cond (.t 58) .skip (.exit 2))) (.seq (.block 3
  (.reg [(.op (some 61) none (.mv (.t 0))), (.op (some 62) none (.mv (.t 13))), (.op (some 63) none (.mv (.t 0))), (.op (some 64) none (.mv (.t 13))), (.op (some 65) none
  (.bin .add (.t 64) (.c (.int .i64 1)))), (.op (some 66) none (.mv (.t 0))), (.op (some 67) none (.mv (.t 13))), (.op (some 68) none (.bin .add (.t 67) (.c (.int .i64 1)))),
  (.op (some 69) none (.iad 1 (.t 66) (.t 68))), (.op (some 70) none (.ld (.t 69))), (.op (some 71) none (.mv (.t 0))), (.op (some 72) none (.mv (.t 13))), (.op (some 73) none
  (.iad 1 (.t 71) (.t 72))), (.op (some 74) none (.ld (.t 73))), (.op (some 75) none (.iad 1 (.t 61) (.t 62))), (.op none none (.st (.t 75) (.t 70))), (.op (some 76) none (.iad 1
  (.t 63) (.t 65))), (.op none none (.st (.t 76) (.t 74)))])) (.reg [(.op (some 59) none (.mv (.t 13))), (.op (some 60) none (.bin .add (.t 59) (.c (.int .i64 1)))),
  (.op (some 13) none (.mv (.t 60)))])))))) .ret)))) .skip)) (.seq (.seq (.reg [(.op (some 77) none (.mv (.t 3))), (.op (some 78) none (.mv (.t 2))), (.op (some 79) none
  (.bin .sub (.t 77) (.t 78))), (.op (some 80) none (.bin .eql (.t 79) (.c (.int .i64 1))))]) (.cond (.t 80) (.seq (.reg [(.op (some 81) none (.mv (.t 1))), (.op (some 14) none
  (.mv (.t 81)))]) (.seq (.reg [(.op (some 82) none (.mv (.t 2))), (.op (some 15) none (.mv (.t 82)))]) (.seq (.block 4 (.loop (.seq (.seq (.reg [(.op (some 83) none (.mv
  (.t 14))), (.op (some 84) none (.mv (.t 15))), (.op (some 85) none (.bin .lss (.t 83) (.t 84)))]) (.cond (.t 85) .skip (.exit 4))) (.block 5 (.seq (.reg [(.op (some 86) none
  (.mv (.t 14))), (.op (some 87) none (.mv (.t 15))), (.op (some 88) none (.bin .add (.t 86) (.t 87))), (.op (some 89) none (.cvt .u64 (.t 88))), (.op (some 90) none (.bin .shr
  (.t 89) (.c (.int .u64 1)))), (.op (some 91) none (.cvt .i64 (.t 90))), (.op (some 16) none (.mv (.t 91)))]) (.seq (.reg [(.op (some 92) none (.mv (.t 4))), (.op (some 93) none
  (.mv (.t 0))), (.op (some 94) none (.mv (.t 2))), (.op (some 95) none (.iad 1 (.t 93) (.t 94))), (.op (some 96) none (.ld (.t 95))), (.op (some 97) none (.mv (.t 0))),
  (.op (some 98) none (.mv (.t 16))), (.op (some 99) none (.iad 1 (.t 97) (.t 98))), (.op (some 100) none (.ld (.t 99))), (.op (some 101) none (.callv (.t 92) [(.t 96),
  (.t 100)])), (.op (some 102) none (.bin .lss (.t 101) (.c (.int .i64 0)))), (.op (some 103) none (.un .not (.t 102)))]) (.cond (.t 103) (.reg [(.op (some 104) none (.mv
  (.t 16))), (.op (some 105) none (.bin .add (.t 104) (.c (.int .i64 1)))), (.op (some 14) none (.mv (.t 105)))]) (.reg [(.op (some 106) none (.mv (.t 16))), (.op (some 15) none
  (.mv (.t 106)))])))))))) (.seq (.seq (.reg [(.op (some 107) none (.mv (.t 2))), (.op (some 17) none (.mv (.t 107)))]) (.block 6 (.loop (.seq (.seq (.reg [(.op (some 108) none
  (.mv (.t 17))), (.op (some 109) none (.mv (.t 14))), (.op (some 110) none (.bin .gtr (.t 108) (.t 109)))]) (.cond (.t 110) .skip (.exit 6))) (.seq (.block 7
  (.reg [(.op (some 113) none (.mv (.t 0))), (.op (some 114) none (.mv (.t 17))), (.op (some 115) none (.mv (.t 0))), (.op (some 116) none (.mv (.t 17))), (.op (some 117) none
  (.bin .sub (.t 116) (.c (.int .i64 1)))), (.op (some 118) none (.mv (.t 0))), (.op (some 119) none (.mv (.t 17))), (.op (some 120) none (.bin .sub (.t 119) (.c (.int .i64 1)))),
  (.op (some 121) none (.iad 1 (.t 118) (.t 120))), (.op (some 122) none (.ld (.t 121))), (.op (some 123) none (.mv (.t 0))), (.op (some 124) none (.mv (.t 17))),
  (.op (some 125) none (.iad 1 (.t 123) (.t 124))), (.op (some 126) none (.ld (.t 125))), (.op (some 127) none (.iad 1 (.t 113) (.t 114))), (.op none none (.st (.t 127)
  (.t 122))), (.op (some 128) none (.iad 1 (.t 115) (.t 117))), (.op none none (.st (.t 128) (.t 126)))])) (.reg [(.op (some 111) none (.mv (.t 17))), (.op (some 112) none
  (.bin .sub (.t 111) (.c (.int .i64 1)))), (.op (some 17) none (.mv (.t 112)))])))))) .ret)))) .skip)) (.seq (.reg [(.op (some 129) none (.mv (.t 1))), (.op (some 130) none (.mv
  (.t 3))), (.op (some 131) none (.bin .add (.t 129) (.t 130))), (.op (some 132) none (.cvt .u64 (.t 131))), (.op (some 133) none (.bin .shr (.t 132) (.c (.int .u64 1)))),
  (.op (some 134) none (.cvt .i64 (.t 133))), (.op (some 18) none (.mv (.t 134)))]) (.seq (.reg [(.op (some 135) none (.mv (.t 18))), (.op (some 136) none (.mv (.t 2))),
  (.op (some 137) none (.bin .add (.t 135) (.t 136))), (.op (some 19) none (.mv (.t 137)))]) (.seq (.reg [(.op (some 20) none (.mv (.c (.int .i64 0)))), (.op (some 21) none (.mv
  (.c (.int .i64 0))))]) (.seq (.seq (.reg [(.op (some 138) none (.mv (.t 2))), (.op (some 139) none (.mv (.t 18))), (.op (some 140) none (.bin .gtr (.t 138) (.t 139)))]) (.cond
  (.t 140) (.seq (.reg [(.op (some 141) none (.mv (.t 19))), (.op (some 142) none (.mv (.t 3))), (.op (some 143) none (.bin .sub (.t 141) (.t 142))), (.op (some 20) none (.mv
  (.t 143)))]) (.reg [(.op (some 144) none (.mv (.t 18))), (.op (some 21) none (.mv (.t 144)))])) (.seq (.reg [(.op (some 145) none (.mv (.t 1))), (.op (some 20) none (.mv
  (.t 145)))]) (.reg [(.op (some 146) none (.mv (.t 2))), (.op (some 21) none (.mv (.t 146)))])))) (.seq (.reg [(.op (some 147) none (.mv (.t 19))), (.op (some 148) none
  (.bin .sub (.t 147) (.c (.int .i64 1)))), (.op (some 22) none (.mv (.t 148)))]) (.seq (.block 8 (.loop (.seq (.seq (.reg [(.op (some 149) none (.mv (.t 20))),
  (.op (some 150) none (.mv (.t 21))), (.op (some 151) none (.bin .lss (.t 149) (.t 150)))]) (.cond (.t 151) .skip (.exit 8))) (.block 9 (.seq (.reg [(.op (some 152) none (.mv
  (.t 20))), (.op (some 153) none (.mv (.t 21))), (.op (some 154) none (.bin .add (.t 152) (.t 153))), (.op (some 155) none (.cvt .u64 (.t 154))), (.op (some 156) none (.bin .shr
  (.t 155) (.c (.int .u64 1)))), (.op (some 157) none (.cvt .i64 (.t 156))), (.op (some 23) none (.mv (.t 157)))]) (.seq (.reg [(.op (some 158) none (.mv (.t 4))),
  (.op (some 159) none (.mv (.t 0))), (.op (some 160) none (.mv (.t 22))), (.op (some 161) none (.mv (.t 23))), (.op (some 162) none (.bin .sub (.t 160) (.t 161))),
  (.op (some 163) none (.iad 1 (.t 159) (.t 162))), (.op (some 164) none (.ld (.t 163))), (.op (some 165) none (.mv (.t 0))), (.op (some 166) none (.mv (.t 23))),
  (.op (some 167) none (.iad 1 (.t 165) (.t 166))), (.op (some 168) none (.ld (.t 167))), (.op (some 169) none (.callv (.t 158) [(.t 164), (.t 168)])), (.op (some 170) none
  (.bin .lss (.t 169) (.c (.int .i64 0)))), (.op (some 171) none (.un .not (.t 170)))]) (.cond (.t 171) (.reg [(.op (some 172) none (.mv (.t 23))), (.op (some 173) none (.bin .add
  (.t 172) (.c (.int .i64 1)))), (.op (some 20) none (.mv (.t 173)))]) (.reg [(.op (some 174) none (.mv (.t 23))), (.op (some 21) none (.mv (.t 174)))])))))))) (.seq
  (.reg [(.op (some 175) none (.mv (.t 19))), (.op (some 176) none (.mv (.t 20))), (.op (some 177) none (.bin .sub (.t 175) (.t 176))), (.op (some 24) none (.mv (.t 177)))]) (.seq
  (.seq (.reg [(.op (some 178) none (.mv (.t 20))), (.op (some 179) none (.mv (.t 2))), (.op (some 180) none (.bin .lss (.t 178) (.t 179))), (.op (some 181) none (.mv (.t 180))),
  (.op (some 182) (some (181, true)) (.mv (.t 2))), (.op (some 183) (some (181, true)) (.mv (.t 24))), (.op (some 184) (some (181, true)) (.bin .lss (.t 182) (.t 183))),
  (.op (some 185) none (.pick (.t 181) (.t 184) (.c (.bool false))))]) (.cond (.t 185) (.reg [(.op (some 186) none (.mv (.t 0))), (.op (some 187) none (.mv (.t 20))),
  (.op (some 188) none (.mv (.t 2))), (.op (some 189) none (.mv (.t 24))), (.op (some 190) none (.mv (.t 4))), (.op (some 191) none (.call 181 [(.t 186), (.t 187), (.t 188),
  (.t 189), (.t 190)]))]) .skip)) (.seq (.seq (.reg [(.op (some 192) none (.mv (.t 1))), (.op (some 193) none (.mv (.t 20))), (.op (some 194) none (.bin .lss (.t 192) (.t 193))),
  (.op (some 195) none (.mv (.t 194))), (.op (some 196) (some (195, true)) (.mv (.t 20))), (.op (some 197) (some (195, true)) (.mv (.t 18))), (.op (some 198) (some (195, true))
  (.bin .lss (.t 196) (.t 197))), (.op (some 199) none (.pick (.t 195) (.t 198) (.c (.bool false))))]) (.cond (.t 199) (.reg [(.op (some 200) none (.mv (.t 0))),
  (.op (some 201) none (.mv (.t 1))), (.op (some 202) none (.mv (.t 20))), (.op (some 203) none (.mv (.t 18))), (.op (some 204) none (.mv (.t 4))), (.op (some 205) none
  (.call 172 [(.t 200), (.t 201), (.t 202), (.t 203), (.t 204)]))]) .skip)) (.seq (.reg [(.op (some 206) none (.mv (.t 18))), (.op (some 207) none (.mv (.t 24))),
  (.op (some 208) none (.bin .lss (.t 206) (.t 207))), (.op (some 209) none (.mv (.t 208))), (.op (some 210) (some (209, true)) (.mv (.t 24))), (.op (some 211) (some (209, true))
  (.mv (.t 3))), (.op (some 212) (some (209, true)) (.bin .lss (.t 210) (.t 211))), (.op (some 213) none (.pick (.t 209) (.t 212) (.c (.bool false))))]) (.cond (.t 213)
  (.reg [(.op (some 214) none (.mv (.t 0))), (.op (some 215) none (.mv (.t 18))), (.op (some 216) none (.mv (.t 24))), (.op (some 217) none (.mv (.t 3))), (.op (some 218) none
  (.mv (.t 4))), (.op (some 219) none (.call 172 [(.t 214), (.t 215), (.t 216), (.t 217), (.t 218)]))]) .skip))))))))))))), []⟩
def k173 : KFunc := ⟨48, (.seq (.reg [(.op (some 6) none (.mv (.c (.bool false))))]) (.seq (.reg [(.op (some 11) none (.mv (.t 1))), (.op (some 7) none (.mv (.t 11)))]) (.seq
  (.block 0 (.loop (.block 1 (.seq (.reg [(.op (some 12) none (.mv (.t 7))), (.op (some 13) none (.bin .mul (.c (.int .i64 2)) (.t 12))), (.op (some 14) none (.bin .add (.t 13)
  (.c (.int .i64 1)))), (.op (some 8) none (.mv (.t 14)))]) (.seq (.seq (.reg [(.op (some 15) none (.mv (.t 8))), (.op (some 16) none (.mv (.t 2))), (.op (some 17) none (.bin .geq
  (.t 15) (.t 16))), (.op (some 18) none (.mv (.t 17))), (.op (some 19) (some (18, false)) (.mv (.t 8))), (.op (some 20) (some (18, false)) (.bin .lss (.t 19) (.c
  (.int .i64 0)))), (.op (some 21) none (.pick (.t 18) (.c (.bool true)) (.t 20)))]) (.cond (.t 21) (.exit 0) .skip)) (.seq (.reg [(.op (some 22) none (.mv (.t 8))),
  (.op (some 9) none (.mv (.t 22)))]) (.seq (.seq (.reg [(.op (some 23) none (.mv (.t 8))), (.op (some 24) none (.bin .add (.t 23) (.c (.int .i64 1)))), (.op (some 10) none (.mv
  (.t 24)))]) (.seq (.reg [(.op (some 25) none (.mv (.t 10))), (.op (some 26) none (.mv (.t 2))), (.op (some 27) none (.bin .lss (.t 25) (.t 26))), (.op (some 28) none (.mv
  (.t 27))), (.op (some 29) (some (28, true)) (.mv (.t 0))), (.op (some 30) (some (28, true)) (.mv (.t 10))), (.op (some 31) (some (28, true)) (.mv (.t 8))),
  (.op (some 32) (some (28, true)) (.inv (.t 29) "Less" [(.t 30), (.t 31)])), (.op (some 33) none (.pick (.t 28) (.t 32) (.c (.bool false))))]) (.cond (.t 33)
  (.reg [(.op (some 34) none (.mv (.t 10))), (.op (some 9) none (.mv (.t 34)))]) .skip))) (.seq (.seq (.reg [(.op (some 35) none (.mv (.t 0))), (.op (some 36) none (.mv (.t 9))),
  (.op (some 37) none (.mv (.t 7))), (.op (some 38) none (.inv (.t 35) "Less" [(.t 36), (.t 37)])), (.op (some 39) none (.un .not (.t 38)))]) (.cond (.t 39) (.exit 0) .skip))
  (.seq (.reg [(.op (some 40) none (.mv (.t 0))), (.op (some 41) none (.mv (.t 7))), (.op (some 42) none (.mv (.t 9))), (.op (some 43) none (.inv (.t 40) "Swap" [(.t 41),
  (.t 42)]))]) (.reg [(.op (some 44) none (.mv (.t 9))), (.op (some 7) none (.mv (.t 44)))])))))))))) (.seq (.reg [(.op (some 45) none (.mv (.t 7))), (.op (some 46) none (.mv
  (.t 1))), (.op (some 47) none (.bin .gtr (.t 45) (.t 46))), (.op (some 6) none (.mv (.t 47)))]) .ret)))), [(.t 6)]⟩
def k174 : KFunc := ⟨23, (.block 0 (.loop (.block 1 (.seq (.reg [(.op (some 5) none (.mv (.t 1))), (.op (some 6) none (.bin .sub (.t 5) (.c (.int .i64 1)))), (.op (some 7) none
  (.bin .quo (.t 6) (.c (.int .i64 2)))), (.op (some 4) none (.mv (.t 7)))]) (.seq (.seq (.reg [(.op (some 8) none (.mv (.t 4))), (.op (some 9) none (.mv (.t 1))),
  (.op (some 10) none (.bin .eql (.t 8) (.t 9))), (.op (some 11) none (.mv (.t 10))), (.op (some 12) (some (11, false)) (.mv (.t 0))), (.op (some 13) (some (11, false)) (.mv
  (.t 1))), (.op (some 14) (some (11, false)) (.mv (.t 4))), (.op (some 15) (some (11, false)) (.inv (.t 12) "Less" [(.t 13), (.t 14)])), (.op (some 16) (some (11, false))
  (.un .not (.t 15))), (.op (some 17) none (.pick (.t 11) (.c (.bool true)) (.t 16)))]) (.cond (.t 17) (.exit 0) .skip)) (.seq (.reg [(.op (some 18) none (.mv (.t 0))),
  (.op (some 19) none (.mv (.t 4))), (.op (some 20) none (.mv (.t 1))), (.op (some 21) none (.inv (.t 18) "Swap" [(.t 19), (.t 20)]))]) (.reg [(.op (some 22) none (.mv (.t 4))),
  (.op (some 1) none (.mv (.t 22)))]))))))), []⟩
def k175 : KFunc := ⟨20, (.seq (.reg [(.op (some 2) none (.mv (.t 0))), (.op (some 3) none (.nck (.t 2))), (.op (some 4) none (.fad 0 (.t 3))), (.op (some 5) none (.ld (.t 4))),
  (.op (some 6) none (.eqv .ptr false (.t 5) (.c (.pointer none))))]) (.cond (.t 6) (.reg [(.op (some 7) none (.mv (.t 0))), (.op (some 8) none (.mv (.t 0))),
  (.op (some 9) none .nev), (.op (some 10) none .nev), (.op (some 11) none .nev), (.op (some 12) none (.nck (.t 7))), (.op (some 13) none (.fad 0 (.t 12))), (.op none none (.st
  (.t 13) (.t 11)))]) (.seq (.reg [(.op (some 14) none (.mv (.t 0))), (.op (some 15) none (.nck (.t 14))), (.op (some 16) none (.fad 0 (.t 15))), (.op (some 17) none (.ld
  (.t 16))), (.op (some 18) none (.mv (.t 0))), (.op (some 19) none (.eqv .ptr true (.t 17) (.t 18)))]) (.cond (.t 19) .nev .skip)))), []⟩
def k176 : KFunc := ⟨30, (.seq (.reg [(.op (some 5) none (.mv (.t 0))), (.op (some 6) none (.nck (.t 5))), (.op (some 7) none (.fad 1 (.t 6))), (.op (some 8) none (.ld (.t 7))),
  (.op (some 11) none (.mv (.t 1))), (.op (some 14) none (.mv (.t 0))), (.op (some 15) none (.nck (.t 14))), (.op (some 16) none (.fad 1 (.t 15))), (.op (some 17) none (.ld
  (.t 16))), (.op (some 18) none (.lenL (.t 17))), (.op (some 9) none .nev), (.chk 17 none (.ld (.t 16))), (.op (some 10) none (.bin .mul (.c (.int .i64 2)) (.t 9))),
  (.op (some 12) none (.bin .add (.t 10) (.t 11))), (.op (some 13) none .nev), (.chk 17 none (.ld (.t 16))), (.op (some 19) none (.slc 5 1 (.t 13) none (some (.t 18)))),
  (.op (some 4) none (.mv (.t 19)))]) (.seq (.reg [(.op (some 20) none (.mv (.t 4))), (.op (some 21) none (.mv (.t 0))), (.op (some 22) none (.nck (.t 21))), (.op (some 23) none
  (.fad 1 (.t 22))), (.op (some 24) none (.ld (.t 23))), (.op (some 25) none (.cpy 5 1 (.t 20) (.t 24)))]) (.reg [(.op (some 26) none (.mv (.t 0))), (.op (some 27) none (.mv
  (.t 4))), (.op (some 28) none (.nck (.t 26))), (.op (some 29) none (.fad 1 (.t 28))), (.op none none (.st (.t 29) (.t 27)))]))), []⟩
def k177 : KFunc := ⟨19, (.seq (.reg [(.op (some 2) none (.mv (.c (.int .i64 0))))]) (.seq (.seq (.reg [(.op (some 3) none (.mv (.t 0))), (.op (some 4) none (.bin .geq (.t 3) (.c
  (.int .u32 65536))))]) (.cond (.t 4) (.seq (.reg [(.op (some 5) none (.mv (.t 0))), (.op (some 6) none (.bin .shr (.t 5) (.c (.int .u64 16)))), (.op (some 0) none (.mv
  (.t 6)))]) (.reg [(.op (some 2) none (.mv (.c (.int .i64 16))))])) .skip)) (.seq (.seq (.reg [(.op (some 7) none (.mv (.t 0))), (.op (some 8) none (.bin .geq (.t 7) (.c
  (.int .u32 256))))]) (.cond (.t 8) (.seq (.reg [(.op (some 9) none (.mv (.t 0))), (.op (some 10) none (.bin .shr (.t 9) (.c (.int .u64 8)))), (.op (some 0) none (.mv (.t 10)))])
  (.reg [(.op (some 11) none (.mv (.t 2))), (.op (some 12) none (.bin .add (.t 11) (.c (.int .i64 8)))), (.op (some 2) none (.mv (.t 12)))])) .skip)) (.seq
  (.reg [(.op (some 13) none (.mv (.t 2))), (.op (some 14) none (.mv (.t 0))), (.op (some 15) none (.cvt .u8 (.t 14))), (.op (some 16) none (.idS (.c (.string (bs [0, 1, 2, 2, 3,
  3, 3, 3, 4, 4, 4, 4, 4, 4, 4, 4, 5, 5, 5, 5, 5, 5, 5, 5, 5, 5, 5, 5, 5, 5, 5, 5, 6, 6, 6, 6, 6, 6, 6, 6, 6, 6, 6, 6, 6, 6, 6, 6, 6, 6, 6, 6, 6, 6, 6, 6, 6, 6, 6, 6, 6, 6, 6, 6,
  7, 7, 7, 7, 7, 7, 7, 7, 7, 7, 7, 7, 7, 7, 7, 7, 7, 7, 7, 7, 7, 7, 7, 7, 7, 7, 7, 7, 7, 7, 7, 7, 7, 7, 7, 7, 7, 7, 7, 7, 7, 7, 7, 7, 7, 7, 7, 7, 7, 7, 7, 7, 7, 7, 7, 7, 7, 7, 7,
  7, 7, 7, 7, 7, 8, 8, 8, 8, 8, 8, 8, 8, 8, 8, 8, 8, 8, 8, 8, 8, 8, 8, 8, 8, 8, 8, 8, 8, 8, 8, 8, 8, 8, 8, 8, 8, 8, 8, 8, 8, 8, 8, 8, 8, 8, 8, 8, 8, 8, 8, 8, 8, 8, 8, 8, 8, 8, 8,
  8, 8, 8, 8, 8, 8, 8, 8, 8, 8, 8, 8, 8, 8, 8, 8, 8, 8, 8, 8, 8, 8, 8, 8, 8, 8, 8, 8, 8, 8, 8, 8, 8, 8, 8, 8, 8, 8, 8, 8, 8, 8, 8, 8, 8, 8, 8, 8, 8, 8, 8, 8, 8, 8, 8, 8, 8, 8, 8,
  8, 8, 8, 8, 8, 8, 8, 8, 8, 8, 8, 8, 8, 8, 8]))) (.t 15))), (.op (some 17) none (.cvt .i64 (.t 16))), (.op (some 18) none (.bin .add (.t 13) (.t 17))), (.op (some 2) none (.mv
  (.t 18)))]) .ret)))), [(.t 2)]⟩
def k178 : KFunc := ⟨17, (.seq (.reg [(.op (some 4) none (.mv (.c (.int .u32 0)))), (.op (some 5) none (.mv (.c (.int .u32 0))))]) (.seq (.reg [(.op (some 7) none (.mv (.t 0))),
  (.op (some 8) none (.cvt .u64 (.t 7))), (.op (some 9) none (.mv (.t 1))), (.op (some 10) none (.cvt .u64 (.t 9))), (.op (some 11) none (.bin .mul (.t 8) (.t 10))),
  (.op (some 6) none (.mv (.t 11)))]) (.seq (.reg [(.op (some 12) none (.mv (.t 6))), (.op (some 13) none (.bin .shr (.t 12) (.c (.int .u64 32)))), (.op (some 14) none (.cvt .u32
  (.t 13))), (.op (some 15) none (.mv (.t 6))), (.op (some 16) none (.cvt .u32 (.t 15))), (.op (some 4) none (.mv (.t 14))), (.op (some 5) none (.mv (.t 16)))]) .ret))), [(.t 4),
  (.t 5)]⟩
def k179 : KFunc := ⟨51, (.seq (.reg [(.op (some 4) none (.mv (.c (.int .u64 0)))), (.op (some 5) none (.mv (.c (.int .u64 0))))]) (.seq (.reg [(.op (some 14) none (.mv (.t 0))),
  (.op (some 15) none (.bin .and (.t 14) (.c (.int .u64 4294967295)))), (.op (some 6) none (.mv (.t 15)))]) (.seq (.reg [(.op (some 16) none (.mv (.t 0))), (.op (some 17) none
  (.bin .shr (.t 16) (.c (.int .u64 32)))), (.op (some 7) none (.mv (.t 17)))]) (.seq (.reg [(.op (some 18) none (.mv (.t 1))), (.op (some 19) none (.bin .and (.t 18) (.c
  (.int .u64 4294967295)))), (.op (some 8) none (.mv (.t 19)))]) (.seq (.reg [(.op (some 20) none (.mv (.t 1))), (.op (some 21) none (.bin .shr (.t 20) (.c (.int .u64 32)))),
  (.op (some 9) none (.mv (.t 21)))]) (.seq (.reg [(.op (some 22) none (.mv (.t 6))), (.op (some 23) none (.mv (.t 8))), (.op (some 24) none (.bin .mul (.t 22) (.t 23))),
  (.op (some 10) none (.mv (.t 24)))]) (.seq (.reg [(.op (some 25) none (.mv (.t 7))), (.op (some 26) none (.mv (.t 8))), (.op (some 27) none (.bin .mul (.t 25) (.t 26))),
  (.op (some 28) none (.mv (.t 10))), (.op (some 29) none (.bin .shr (.t 28) (.c (.int .u64 32)))), (.op (some 30) none (.bin .add (.t 27) (.t 29))), (.op (some 11) none (.mv
  (.t 30)))]) (.seq (.reg [(.op (some 31) none (.mv (.t 11))), (.op (some 32) none (.bin .and (.t 31) (.c (.int .u64 4294967295)))), (.op (some 12) none (.mv (.t 32)))]) (.seq
  (.reg [(.op (some 33) none (.mv (.t 11))), (.op (some 34) none (.bin .shr (.t 33) (.c (.int .u64 32)))), (.op (some 13) none (.mv (.t 34)))]) (.seq (.reg [(.op (some 35) none
  (.mv (.t 12))), (.op (some 36) none (.mv (.t 6))), (.op (some 37) none (.mv (.t 9))), (.op (some 38) none (.bin .mul (.t 36) (.t 37))), (.op (some 39) none (.bin .add (.t 35)
  (.t 38))), (.op (some 12) none (.mv (.t 39)))]) (.seq (.reg [(.op (some 40) none (.mv (.t 7))), (.op (some 41) none (.mv (.t 9))), (.op (some 42) none (.bin .mul (.t 40)
  (.t 41))), (.op (some 43) none (.mv (.t 13))), (.op (some 44) none (.bin .add (.t 42) (.t 43))), (.op (some 45) none (.mv (.t 12))), (.op (some 46) none (.bin .shr (.t 45) (.c
  (.int .u64 32)))), (.op (some 47) none (.bin .add (.t 44) (.t 46))), (.op (some 4) none (.mv (.t 47)))]) (.seq (.reg [(.op (some 48) none (.mv (.t 0))), (.op (some 49) none (.mv
  (.t 1))), (.op (some 50) none (.bin .mul (.t 48) (.t 49))), (.op (some 5) none (.mv (.t 50)))]) .ret)))))))))))), [(.t 4), (.t 5)]⟩
def k180 : KFunc := ⟨18, (.seq (.reg [(.op (some 4) none (.mv (.c (.bool false))))]) (.seq (.reg [(.op (some 5) none (.mv (.t 0))), (.op (some 6) none (.lenS (.t 5))),
  (.op (some 7) none (.mv (.t 1))), (.op (some 8) none (.lenS (.t 7))), (.op (some 9) none (.bin .geq (.t 6) (.t 8))), (.op (some 10) none (.mv (.t 9))), (.op (some 11) (some (10,
  true)) (.mv (.t 0))), (.op (some 12) (some (10, true)) (.mv (.t 1))), (.op (some 13) (some (10, true)) (.lenS (.t 12))), (.op (some 14) (some (10, true)) (.slS
  (.t 11) none (some (.t 13)))), (.op (some 15) (some (10, true)) (.mv (.t 1))), (.op (some 16) (some (10, true)) (.bin .eql (.t 14) (.t 15))), (.op (some 17) none (.pick (.t 10)
  (.t 16) (.c (.bool false)))), (.op (some 4) none (.mv (.t 17)))]) .ret)), [(.t 4)]⟩
def k181 : KFunc := ⟨58, (.seq (.reg [(.op (some 12) none (.mv (.t 2))), (.op (some 13) none (.mv (.t 1))), (.op (some 14) none (.bin .sub (.t 12) (.t 13))), (.op (some 10) none
  (.mv (.t 14)))]) (.seq (.reg [(.op (some 15) none (.mv (.t 3))), (.op (some 16) none (.mv (.t 2))), (.op (some 17) none (.bin .sub (.t 15) (.t 16))), (.op (some 11) none (.mv
  (.t 17)))]) (.seq (.block 0 (.loop (.seq (.seq (.reg [(.op (some 18) none (.mv (.t 10))), (.op (some 19) none (.mv (.t 11))), (.op (some 20) none (.bin .neq (.t 18) (.t 19)))])
  (.cond (.t 20) .skip (.exit 0))) (.block 1 (.seq (.reg [(.op (some 21) none (.mv (.t 10))), (.op (some 22) none (.mv (.t 11))), (.op (some 23) none (.bin .gtr (.t 21)
  (.t 22)))]) (.cond (.t 23) (.seq (.reg [(.op (some 24) none (.mv (.t 0))), (.op (some 25) none (.mv (.t 2))), (.op (some 26) none (.mv (.t 10))), (.op (some 27) none (.bin .sub
  (.t 25) (.t 26))), (.op (some 28) none (.mv (.t 2))), (.op (some 29) none (.mv (.t 11))), (.op (some 30) none (.mv (.t 4))), (.op (some 31) none (.call 184 [(.t 24), (.t 27),
  (.t 28), (.t 29), (.t 30)]))]) (.reg [(.op (some 32) none (.mv (.t 10))), (.op (some 33) none (.mv (.t 11))), (.op (some 34) none (.bin .sub (.t 32) (.t 33))),
  (.op (some 10) none (.mv (.t 34)))])) (.seq (.reg [(.op (some 35) none (.mv (.t 0))), (.op (some 36) none (.mv (.t 2))), (.op (some 37) none (.mv (.t 10))), (.op (some 38) none
  (.bin .sub (.t 36) (.t 37))), (.op (some 39) none (.mv (.t 2))), (.op (some 40) none (.mv (.t 11))), (.op (some 41) none (.bin .add (.t 39) (.t 40))), (.op (some 42) none (.mv
  (.t 10))), (.op (some 43) none (.bin .sub (.t 41) (.t 42))), (.op (some 44) none (.mv (.t 10))), (.op (some 45) none (.mv (.t 4))), (.op (some 46) none (.call 184 [(.t 35),
  (.t 38), (.t 43), (.t 44), (.t 45)]))]) (.reg [(.op (some 47) none (.mv (.t 11))), (.op (some 48) none (.mv (.t 10))), (.op (some 49) none (.bin .sub (.t 47) (.t 48))),
  (.op (some 11) none (.mv (.t 49)))])))))))) (.reg [(.op (some 50) none (.mv (.t 0))), (.op (some 51) none (.mv (.t 2))), (.op (some 52) none (.mv (.t 10))), (.op (some 53) none
  (.bin .sub (.t 51) (.t 52))), (.op (some 54) none (.mv (.t 2))), (.op (some 55) none (.mv (.t 10))), (.op (some 56) none (.mv (.t 4))), (.op (some 57) none (.call 184 [(.t 50),
  (.t 53), (.t 54), (.t 55), (.t 56)]))])))), []⟩
def k184 : KFunc := ⟨38, (.seq (.reg [(.op (some 10) none (.mv (.c (.int .i64 0))))]) (.block 0 (.loop (.seq (.seq (.reg [(.op (some 11) none (.mv (.t 10))), (.op (some 12) none
  (.mv (.t 3))), (.op (some 13) none (.bin .lss (.t 11) (.t 12)))]) (.cond (.t 13) .skip (.exit 0))) (.seq (.block 1 (.reg [(.op (some 16) none (.mv (.t 0))), (.op (some 17) none
  (.mv (.t 1))), (.op (some 18) none (.mv (.t 10))), (.op (some 19) none (.bin .add (.t 17) (.t 18))), (.op (some 20) none (.mv (.t 0))), (.op (some 21) none (.mv (.t 2))),
  (.op (some 22) none (.mv (.t 10))), (.op (some 23) none (.bin .add (.t 21) (.t 22))), (.op (some 24) none (.mv (.t 0))), (.op (some 25) none (.mv (.t 2))), (.op (some 26) none
  (.mv (.t 10))), (.op (some 27) none (.bin .add (.t 25) (.t 26))), (.op (some 28) none (.iad 1 (.t 24) (.t 27))), (.op (some 29) none (.ld (.t 28))), (.op (some 30) none (.mv
  (.t 0))), (.op (some 31) none (.mv (.t 1))), (.op (some 32) none (.mv (.t 10))), (.op (some 33) none (.bin .add (.t 31) (.t 32))), (.op (some 34) none (.iad 1 (.t 30) (.t 33))),
  (.op (some 35) none (.ld (.t 34))), (.op (some 36) none (.iad 1 (.t 16) (.t 19))), (.op none none (.st (.t 36) (.t 29))), (.op (some 37) none (.iad 1 (.t 20) (.t 23))),
  (.op none none (.st (.t 37) (.t 35)))])) (.reg [(.op (some 14) none (.mv (.t 10))), (.op (some 15) none (.bin .add (.t 14) (.c (.int .i64 1)))), (.op (some 10) none (.mv
  (.t 15)))])))))), []⟩
def k205 : KFunc := ⟨18, (.seq (.reg [(.op (some 2) none (.mv (.c (.int .i64 0))))]) (.seq (.reg [(.op (some 3) none (.mv (.c (.int .i64 0))))]) (.seq (.seq
  (.reg [(.op (some 6) none (.mv (.t 0))), (.op (some 7) none (.lenL (.t 6))), (.op (some 8) none (.mv (.c (.int .i64 0))))]) (.block 0 (.loop (.seq (.reg [(.op (some 9) none
  (.bin .lss (.t 8) (.t 7)))]) (.seq (.cond (.t 9) .skip (.exit 0)) (.seq (.block 1 (.seq (.reg [(.op (some 10) none (.iad 1 (.t 6) (.t 8))), (.op (some 11) none (.ld (.t 10))),
  (.op (some 5) none (.mv (.t 11)))]) (.seq (.reg [(.op (some 12) none (.mv (.t 5))), (.op (some 13) none (.mv (.t 3))), (.op (some 14) none (.bin .neq (.t 12) (.t 13)))]) (.cond
  (.t 14) (.seq (.reg [(.op (some 15) none (.mv (.t 5))), (.op (some 2) none (.mv (.t 15)))]) .ret) .skip)))) (.reg [(.op (some 16) none (.bin .add (.t 8) (.c (.int .i64 1)))),
  (.op (some 8) none (.mv (.t 16)))]))))))) (.seq (.reg [(.op (some 17) none (.mv (.t 3))), (.op (some 2) none (.mv (.t 17)))]) .ret)))), [(.t 2)]⟩
def k208 : KFunc := ⟨40, (.seq (.reg [(.op (some 6) none (.mv (.c (.bool false))))]) (.seq (.reg [(.op (some 7) none (.mv (.t 0))), (.op (some 8) none (.mv (.t 1))),
  (.op (some 9) none (.iad 1 (.t 7) (.t 8))), (.op (some 10) none (.ld (.t 9))), (.op (some 11) none (.nck (.t 10))), (.op (some 12) none (.fad 0 (.t 11))), (.op (some 13) none
  (.ld (.t 12))), (.op (some 14) none (.mv (.t 0))), (.op (some 15) none (.mv (.t 2))), (.op (some 16) none (.iad 1 (.t 14) (.t 15))), (.op (some 17) none (.ld (.t 16))),
  (.op (some 18) none (.nck (.t 17))), (.op (some 19) none (.fad 0 (.t 18))), (.op (some 20) none (.ld (.t 19))), (.op (some 22) none (.mv (.t 0))), (.op (some 23) none (.mv
  (.t 1))), (.op (some 24) none (.iad 1 (.t 22) (.t 23))), (.op (some 25) none (.ld (.t 24))), (.op (some 26) none (.nck (.t 25))), (.op (some 27) none (.fad 1 (.t 26))),
  (.op (some 28) none (.ld (.t 27))), (.op (some 29) none (.mv (.t 0))), (.op (some 30) none (.mv (.t 2))), (.op (some 31) none (.iad 1 (.t 29) (.t 30))), (.op (some 32) none (.ld
  (.t 31))), (.op (some 33) none (.nck (.t 32))), (.op (some 34) none (.fad 1 (.t 33))), (.op (some 35) none (.ld (.t 34))), (.op (some 21) none (.call 118 [(.t 13), (.t 20)])),
  (.chk 25 none (.ld (.t 24))), (.chk 28 none (.ld (.t 27))), (.chk 32 none (.ld (.t 31))), (.chk 35 none (.ld (.t 34))), (.op (some 36) none (.call 118 [(.t 28), (.t 35)])),
  (.op (some 37) none (.bsl 3 2 [(.int .i64 0), (.int .i64 0)] [(0, (1, (.t 21))), (1, (1, (.t 36)))])), (.op (some 38) none (.call 205 [(.t 37)])), (.op (some 39) none (.bin .lss
  (.t 38) (.c (.int .i64 0)))), (.op (some 6) none (.mv (.t 39)))]) .ret)), [(.t 6)]⟩
def k209 : KFunc := ⟨25, (.seq (.reg [(.op (some 2) none (.mv (.c .nilIface)))]) (.seq (.reg [(.op (some 5) none (.mv (.t 0))), (.op (some 6) none (.nck (.t 5))),
  (.op (some 7) none (.ld (.t 6))), (.op (some 8) none (.lenL (.t 7))), (.op (some 9) none (.bin .sub (.t 8) (.c (.int .i64 1)))), (.op (some 3) none (.mv (.t 9)))]) (.seq
  (.reg [(.op (some 10) none (.mv (.t 0))), (.op (some 11) none (.nck (.t 10))), (.op (some 12) none (.ld (.t 11))), (.op (some 13) none (.mv (.t 3))), (.op (some 14) none (.iad 1
  (.t 12) (.t 13))), (.op (some 15) none (.ld (.t 14))), (.op (some 4) none (.mv (.t 15)))]) (.seq (.reg [(.op (some 16) none (.mv (.t 0))), (.op (some 17) none (.mv (.t 0))),
  (.op (some 18) none (.nck (.t 17))), (.op (some 19) none (.ld (.t 18))), (.op (some 20) none (.mv (.t 3))), (.op (some 21) none (.slc 159 1 (.t 19) none (some (.t 20)))),
  (.op (some 22) none (.nck (.t 16))), (.op none none (.st (.t 22) (.t 21)))]) (.seq (.reg [(.op (some 23) none (.mv (.t 4))), (.op (some 24) none (.mki 159 (.t 23))),
  (.op (some 2) none (.mv (.t 24)))]) .ret))))), [(.t 2)]⟩
def k210 : KFunc := ⟨20, (.seq (.reg [(.op (some 7) none (.mv (.t 1))), (.op (some 8) none (.tas 159 (.pointer none) true (.t 7))), (.op (some 6) none (.mv (.t 8))),
  (.op (some 9) none (.xt (.t 6) 0)), (.op (some 10) none (.xt (.t 6) 1)), (.op (some 4) none (.mv (.t 9))), (.op (some 5) none (.mv (.t 10)))]) (.seq (.reg [(.op (some 11) none
  (.mv (.t 5)))]) (.cond (.t 11) (.reg [(.op (some 12) none (.mv (.t 0))), (.op (some 13) none (.mv (.t 0))), (.op (some 14) none (.nck (.t 13))), (.op (some 15) none (.ld
  (.t 14))), (.op (some 16) none (.mv (.t 4))), (.op (some 17) none (.bsl 159 1 [(.pointer none)] [(0, (1, (.t 16)))])), (.op (some 18) none (.app 159 1 8 (.t 15) (.t 17))),
  (.op (some 19) none (.nck (.t 12))), (.op none none (.st (.t 19) (.t 18)))]) .skip))), []⟩
def k211 : KFunc := ⟨20, (.reg [(.op (some 6) none (.mv (.t 0))), (.op (some 7) none (.mv (.t 1))), (.op (some 8) none (.mv (.t 0))), (.op (some 9) none (.mv (.t 2))),
  (.op (some 10) none (.mv (.t 0))), (.op (some 11) none (.mv (.t 2))), (.op (some 12) none (.iad 1 (.t 10) (.t 11))), (.op (some 13) none (.ld (.t 12))), (.op (some 14) none (.mv
  (.t 0))), (.op (some 15) none (.mv (.t 1))), (.op (some 16) none (.iad 1 (.t 14) (.t 15))), (.op (some 17) none (.ld (.t 16))), (.op (some 18) none (.iad 1 (.t 6) (.t 7))),
  (.op none none (.st (.t 18) (.t 13))), (.op (some 19) none (.iad 1 (.t 8) (.t 9))), (.op none none (.st (.t 19) (.t 17)))]), []⟩
theorem c4 : okFunc Go.Proofs.Try.prog 4 = true ∧ ∃ fn, Go.Proofs.Try.prog.funcs[4]? = some fn ∧ cFunc Go.Proofs.Try.prog fn = some k4 := ⟨by kernel_rfl, Go.Proofs.Try.f4, Go.Proofs.Try.func4, by kernel_rfl⟩
theorem c5 : okFunc Go.Proofs.Try.prog 5 = true ∧ ∃ fn, Go.Proofs.Try.prog.funcs[5]? = some fn ∧ cFunc Go.Proofs.Try.prog fn = some k5 := ⟨by kernel_rfl, Go.Proofs.Try.f5, Go.Proofs.Try.func5, by kernel_rfl⟩
theorem c6 : okFunc Go.Proofs.Try.prog 6 = true ∧ ∃ fn, Go.Proofs.Try.prog.funcs[6]? = some fn ∧ cFunc Go.Proofs.Try.prog fn = some k6 := ⟨by kernel_rfl, Go.Proofs.Try.f6, Go.Proofs.Try.func6, by kernel_rfl⟩
theorem c7 : okFunc Go.Proofs.Try.prog 7 = true ∧ ∃ fn, Go.Proofs.Try.prog.funcs[7]? = some fn ∧ cFunc Go.Proofs.Try.prog fn = some k7 := ⟨by kernel_rfl, Go.Proofs.Try.f7, Go.Proofs.Try.func7, by kernel_rfl⟩
theorem c8 : okFunc Go.Proofs.Try.prog 8 = true ∧ ∃ fn, Go.Proofs.Try.prog.funcs[8]? = some fn ∧ cFunc Go.Proofs.Try.prog fn = some k8 := ⟨by kernel_rfl, Go.Proofs.Try.f8, Go.Proofs.Try.func8, by kernel_rfl⟩
theorem c13 : okFunc Go.Proofs.Try.prog 13 = true ∧ ∃ fn, Go.Proofs.Try.prog.funcs[13]? = some fn ∧ cFunc Go.Proofs.Try.prog fn = some k13 := ⟨by kernel_rfl, Go.Proofs.Try.f13, Go.Proofs.Try.func13, by kernel_rfl⟩
theorem c14 : okFunc Go.Proofs.Try.prog 14 = true ∧ ∃ fn, Go.Proofs.Try.prog.funcs[14]? = some fn ∧ cFunc Go.Proofs.Try.prog fn = some k14 := ⟨by kernel_rfl, Go.Proofs.Try.f14, Go.Proofs.Try.func14, by kernel_rfl⟩
theorem c15 : okFunc Go.Proofs.Try.prog 15 = true ∧ ∃ fn, Go.Proofs.Try.prog.funcs[15]? = some fn ∧ cFunc Go.Proofs.Try.prog fn = some k15 := ⟨by kernel_rfl, Go.Proofs.Try.f15, Go.Proofs.Try.func15, by kernel_rfl⟩
theorem c18 : okFunc Go.Proofs.Try.prog 18 = true ∧ ∃ fn, Go.Proofs.Try.prog.funcs[18]? = some fn ∧ cFunc Go.Proofs.Try.prog fn = some k18 := ⟨by kernel_rfl, Go.Proofs.Try.f18, Go.Proofs.Try.func18, by kernel_rfl⟩
theorem c23 : okFunc Go.Proofs.Try.prog 23 = true ∧ ∃ fn, Go.Proofs.Try.prog.funcs[23]? = some fn ∧ cFunc Go.Proofs.Try.prog fn = some k23 := ⟨by kernel_rfl, Go.Proofs.Try.f23, Go.Proofs.Try.func23, by kernel_rfl⟩
theorem c24 : okFunc Go.Proofs.Try.prog 24 = true ∧ ∃ fn, Go.Proofs.Try.prog.funcs[24]? = some fn ∧ cFunc Go.Proofs.Try.prog fn = some k24 := ⟨by kernel_rfl, Go.Proofs.Try.f24, Go.Proofs.Try.func24, by kernel_rfl⟩
theorem c25 : okFunc Go.Proofs.Try.prog 25 = true ∧ ∃ fn, Go.Proofs.Try.prog.funcs[25]? = some fn ∧ cFunc Go.Proofs.Try.prog fn = some k25 := ⟨by kernel_rfl, Go.Proofs.Try.f25, Go.Proofs.Try.func25, by kernel_rfl⟩
theorem c26 : okFunc Go.Proofs.Try.prog 26 = true ∧ ∃ fn, Go.Proofs.Try.prog.funcs[26]? = some fn ∧ cFunc Go.Proofs.Try.prog fn = some k26 := ⟨by kernel_rfl, Go.Proofs.Try.f26, Go.Proofs.Try.func26, by kernel_rfl⟩
theorem c27 : okFunc Go.Proofs.Try.prog 27 = true ∧ ∃ fn, Go.Proofs.Try.prog.funcs[27]? = some fn ∧ cFunc Go.Proofs.Try.prog fn = some k27 := ⟨by kernel_rfl, Go.Proofs.Try.f27, Go.Proofs.Try.func27, by kernel_rfl⟩
theorem c28 : okFunc Go.Proofs.Try.prog 28 = true ∧ ∃ fn, Go.Proofs.Try.prog.funcs[28]? = some fn ∧ cFunc Go.Proofs.Try.prog fn = some k28 := ⟨by kernel_rfl, Go.Proofs.Try.f28, Go.Proofs.Try.func28, by kernel_rfl⟩
theorem c29 : okFunc Go.Proofs.Try.prog 29 = true ∧ ∃ fn, Go.Proofs.Try.prog.funcs[29]? = some fn ∧ cFunc Go.Proofs.Try.prog fn = some k29 := ⟨by kernel_rfl, Go.Proofs.Try.f29, Go.Proofs.Try.func29, by kernel_rfl⟩
theorem c30 : okFunc Go.Proofs.Try.prog 30 = true ∧ ∃ fn, Go.Proofs.Try.prog.funcs[30]? = some fn ∧ cFunc Go.Proofs.Try.prog fn = some k30 := ⟨by kernel_rfl, Go.Proofs.Try.f30, Go.Proofs.Try.func30, by kernel_rfl⟩
theorem c31 : okFunc Go.Proofs.Try.prog 31 = true ∧ ∃ fn, Go.Proofs.Try.prog.funcs[31]? = some fn ∧ cFunc Go.Proofs.Try.prog fn = some k31 := ⟨by kernel_rfl, Go.Proofs.Try.f31, Go.Proofs.Try.func31, by kernel_rfl⟩
theorem c32 : okFunc Go.Proofs.Try.prog 32 = true ∧ ∃ fn, Go.Proofs.Try.prog.funcs[32]? = some fn ∧ cFunc Go.Proofs.Try.prog fn = some k32 := ⟨by kernel_rfl, Go.Proofs.Try.f32, Go.Proofs.Try.func32, by kernel_rfl⟩
theorem c33 : okFunc Go.Proofs.Try.prog 33 = true ∧ ∃ fn, Go.Proofs.Try.prog.funcs[33]? = some fn ∧ cFunc Go.Proofs.Try.prog fn = some k33 := ⟨by kernel_rfl, Go.Proofs.Try.f33, Go.Proofs.Try.func33, by kernel_rfl⟩
theorem c34 : okFunc Go.Proofs.Try.prog 34 = true ∧ ∃ fn, Go.Proofs.Try.prog.funcs[34]? = some fn ∧ cFunc Go.Proofs.Try.prog fn = some k34 := ⟨by kernel_rfl, Go.Proofs.Try.f34, Go.Proofs.Try.func34, by kernel_rfl⟩
theorem c35 : okFunc Go.Proofs.Try.prog 35 = true ∧ ∃ fn, Go.Proofs.Try.prog.funcs[35]? = some fn ∧ cFunc Go.Proofs.Try.prog fn = some k35 := ⟨by kernel_rfl, Go.Proofs.Try.f35, Go.Proofs.Try.func35, by kernel_rfl⟩
theorem c36 : okFunc Go.Proofs.Try.prog 36 = true ∧ ∃ fn, Go.Proofs.Try.prog.funcs[36]? = some fn ∧ cFunc Go.Proofs.Try.prog fn = some k36 := ⟨by kernel_rfl, Go.Proofs.Try.f36, Go.Proofs.Try.func36, by kernel_rfl⟩
theorem c37 : okFunc Go.Proofs.Try.prog 37 = true ∧ ∃ fn, Go.Proofs.Try.prog.funcs[37]? = some fn ∧ cFunc Go.Proofs.Try.prog fn = some k37 := ⟨by kernel_rfl, Go.Proofs.Try.f37, Go.Proofs.Try.func37, by kernel_rfl⟩
theorem c38 : okFunc Go.Proofs.Try.prog 38 = true ∧ ∃ fn, Go.Proofs.Try.prog.funcs[38]? = some fn ∧ cFunc Go.Proofs.Try.prog fn = some k38 := ⟨by kernel_rfl, Go.Proofs.Try.f38, Go.Proofs.Try.func38, by kernel_rfl⟩
theorem c39 : okFunc Go.Proofs.Try.prog 39 = true ∧ ∃ fn, Go.Proofs.Try.prog.funcs[39]? = some fn ∧ cFunc Go.Proofs.Try.prog fn = some k39 := ⟨by kernel_rfl, Go.Proofs.Try.f39, Go.Proofs.Try.func39, by kernel_rfl⟩
theorem c40 : okFunc Go.Proofs.Try.prog 40 = true ∧ ∃ fn, Go.Proofs.Try.prog.funcs[40]? = some fn ∧ cFunc Go.Proofs.Try.prog fn = some k40 := ⟨by kernel_rfl, Go.Proofs.Try.f40, Go.Proofs.Try.func40, by kernel_rfl⟩
theorem c41 : okFunc Go.Proofs.Try.prog 41 = true ∧ ∃ fn, Go.Proofs.Try.prog.funcs[41]? = some fn ∧ cFunc Go.Proofs.Try.prog fn = some k41 := ⟨by kernel_rfl, Go.Proofs.Try.f41, Go.Proofs.Try.func41, by kernel_rfl⟩
theorem c42 : okFunc Go.Proofs.Try.prog 42 = true ∧ ∃ fn, Go.Proofs.Try.prog.funcs[42]? = some fn ∧ cFunc Go.Proofs.Try.prog fn = some k42 := ⟨by kernel_rfl, Go.Proofs.Try.f42, Go.Proofs.Try.func42, by kernel_rfl⟩
theorem c43 : okFunc Go.Proofs.Try.prog 43 = true ∧ ∃ fn, Go.Proofs.Try.prog.funcs[43]? = some fn ∧ cFunc Go.Proofs.Try.prog fn = some k43 := ⟨by kernel_rfl, Go.Proofs.Try.f43, Go.Proofs.Try.func43, by kernel_rfl⟩
theorem c44 : okFunc Go.Proofs.Try.prog 44 = true ∧ ∃ fn, Go.Proofs.Try.prog.funcs[44]? = some fn ∧ cFunc Go.Proofs.Try.prog fn = some k44 := ⟨by kernel_rfl, Go.Proofs.Try.f44, Go.Proofs.Try.func44, by kernel_rfl⟩
theorem c66 : okFunc Go.Proofs.Try.prog 66 = true ∧ ∃ fn, Go.Proofs.Try.prog.funcs[66]? = some fn ∧ cFunc Go.Proofs.Try.prog fn = some k66 := ⟨by kernel_rfl, Go.Proofs.Try.f66, Go.Proofs.Try.func66, by kernel_rfl⟩
theorem c67 : okFunc Go.Proofs.Try.prog 67 = true ∧ ∃ fn, Go.Proofs.Try.prog.funcs[67]? = some fn ∧ cFunc Go.Proofs.Try.prog fn = some k67 := ⟨by kernel_rfl, Go.Proofs.Try.f67, Go.Proofs.Try.func67, by kernel_rfl⟩
theorem c68 : okFunc Go.Proofs.Try.prog 68 = true ∧ ∃ fn, Go.Proofs.Try.prog.funcs[68]? = some fn ∧ cFunc Go.Proofs.Try.prog fn = some k68 := ⟨by kernel_rfl, Go.Proofs.Try.f68, Go.Proofs.Try.func68, by kernel_rfl⟩
theorem c69 : okFunc Go.Proofs.Try.prog 69 = true ∧ ∃ fn, Go.Proofs.Try.prog.funcs[69]? = some fn ∧ cFunc Go.Proofs.Try.prog fn = some k69 := ⟨by kernel_rfl, Go.Proofs.Try.f69, Go.Proofs.Try.func69, by kernel_rfl⟩
theorem c70 : okFunc Go.Proofs.Try.prog 70 = true ∧ ∃ fn, Go.Proofs.Try.prog.funcs[70]? = some fn ∧ cFunc Go.Proofs.Try.prog fn = some k70 := ⟨by kernel_rfl, Go.Proofs.Try.f70, Go.Proofs.Try.func70, by kernel_rfl⟩
theorem c71 : okFunc Go.Proofs.Try.prog 71 = true ∧ ∃ fn, Go.Proofs.Try.prog.funcs[71]? = some fn ∧ cFunc Go.Proofs.Try.prog fn = some k71 := ⟨by kernel_rfl, Go.Proofs.Try.f71, Go.Proofs.Try.func71, by kernel_rfl⟩
theorem c72 : okFunc Go.Proofs.Try.prog 72 = true ∧ ∃ fn, Go.Proofs.Try.prog.funcs[72]? = some fn ∧ cFunc Go.Proofs.Try.prog fn = some k72 := ⟨by kernel_rfl, Go.Proofs.Try.f72, Go.Proofs.Try.func72, by kernel_rfl⟩
theorem c73 : okFunc Go.Proofs.Try.prog 73 = true ∧ ∃ fn, Go.Proofs.Try.prog.funcs[73]? = some fn ∧ cFunc Go.Proofs.Try.prog fn = some k73 := ⟨by kernel_rfl, Go.Proofs.Try.f73, Go.Proofs.Try.func73, by kernel_rfl⟩
theorem c74 : okFunc Go.Proofs.Try.prog 74 = true ∧ ∃ fn, Go.Proofs.Try.prog.funcs[74]? = some fn ∧ cFunc Go.Proofs.Try.prog fn = some k74 := ⟨by kernel_rfl, Go.Proofs.Try.f74, Go.Proofs.Try.func74, by kernel_rfl⟩
theorem c75 : okFunc Go.Proofs.Try.prog 75 = true ∧ ∃ fn, Go.Proofs.Try.prog.funcs[75]? = some fn ∧ cFunc Go.Proofs.Try.prog fn = some k75 := ⟨by kernel_rfl, Go.Proofs.Try.f75, Go.Proofs.Try.func75, by kernel_rfl⟩
theorem c79 : okFunc Go.Proofs.Try.prog 79 = true ∧ ∃ fn, Go.Proofs.Try.prog.funcs[79]? = some fn ∧ cFunc Go.Proofs.Try.prog fn = some k79 := ⟨by kernel_rfl, Go.Proofs.Try.f79, Go.Proofs.Try.func79, by kernel_rfl⟩
theorem c80 : okFunc Go.Proofs.Try.prog 80 = true ∧ ∃ fn, Go.Proofs.Try.prog.funcs[80]? = some fn ∧ cFunc Go.Proofs.Try.prog fn = some k80 := ⟨by kernel_rfl, Go.Proofs.Try.f80, Go.Proofs.Try.func80, by kernel_rfl⟩
theorem c81 : okFunc Go.Proofs.Try.prog 81 = true ∧ ∃ fn, Go.Proofs.Try.prog.funcs[81]? = some fn ∧ cFunc Go.Proofs.Try.prog fn = some k81 := ⟨by kernel_rfl, Go.Proofs.Try.f81, Go.Proofs.Try.func81, by kernel_rfl⟩
theorem c82 : okFunc Go.Proofs.Try.prog 82 = true ∧ ∃ fn, Go.Proofs.Try.prog.funcs[82]? = some fn ∧ cFunc Go.Proofs.Try.prog fn = some k82 := ⟨by kernel_rfl, Go.Proofs.Try.f82, Go.Proofs.Try.func82, by kernel_rfl⟩
theorem c87 : okFunc Go.Proofs.Try.prog 87 = true ∧ ∃ fn, Go.Proofs.Try.prog.funcs[87]? = some fn ∧ cFunc Go.Proofs.Try.prog fn = some k87 := ⟨by kernel_rfl, Go.Proofs.Try.f87, Go.Proofs.Try.func87, by kernel_rfl⟩
theorem c89 : okFunc Go.Proofs.Try.prog 89 = true ∧ ∃ fn, Go.Proofs.Try.prog.funcs[89]? = some fn ∧ cFunc Go.Proofs.Try.prog fn = some k89 := ⟨by kernel_rfl, Go.Proofs.Try.f89, Go.Proofs.Try.func89, by kernel_rfl⟩
theorem c90 : okFunc Go.Proofs.Try.prog 90 = true ∧ ∃ fn, Go.Proofs.Try.prog.funcs[90]? = some fn ∧ cFunc Go.Proofs.Try.prog fn = some k90 := ⟨by kernel_rfl, Go.Proofs.Try.f90, Go.Proofs.Try.func90, by kernel_rfl⟩
theorem c91 : okFunc Go.Proofs.Try.prog 91 = true ∧ ∃ fn, Go.Proofs.Try.prog.funcs[91]? = some fn ∧ cFunc Go.Proofs.Try.prog fn = some k91 := ⟨by kernel_rfl, Go.Proofs.Try.f91, Go.Proofs.Try.func91, by kernel_rfl⟩
theorem c92 : okFunc Go.Proofs.Try.prog 92 = true ∧ ∃ fn, Go.Proofs.Try.prog.funcs[92]? = some fn ∧ cFunc Go.Proofs.Try.prog fn = some k92 := ⟨by kernel_rfl, Go.Proofs.Try.f92, Go.Proofs.Try.func92, by kernel_rfl⟩
theorem c93 : okFunc Go.Proofs.Try.prog 93 = true ∧ ∃ fn, Go.Proofs.Try.prog.funcs[93]? = some fn ∧ cFunc Go.Proofs.Try.prog fn = some k93 := ⟨by kernel_rfl, Go.Proofs.Try.f93, Go.Proofs.Try.func93, by kernel_rfl⟩
theorem c94 : okFunc Go.Proofs.Try.prog 94 = true ∧ ∃ fn, Go.Proofs.Try.prog.funcs[94]? = some fn ∧ cFunc Go.Proofs.Try.prog fn = some k94 := ⟨by kernel_rfl, Go.Proofs.Try.f94, Go.Proofs.Try.func94, by kernel_rfl⟩
theorem c95 : okFunc Go.Proofs.Try.prog 95 = true ∧ ∃ fn, Go.Proofs.Try.prog.funcs[95]? = some fn ∧ cFunc Go.Proofs.Try.prog fn = some k95 := ⟨by kernel_rfl, Go.Proofs.Try.f95, Go.Proofs.Try.func95, by kernel_rfl⟩
theorem c96 : okFunc Go.Proofs.Try.prog 96 = true ∧ ∃ fn, Go.Proofs.Try.prog.funcs[96]? = some fn ∧ cFunc Go.Proofs.Try.prog fn = some k96 := ⟨by kernel_rfl, Go.Proofs.Try.f96, Go.Proofs.Try.func96, by kernel_rfl⟩
theorem c97 : okFunc Go.Proofs.Try.prog 97 = true ∧ ∃ fn, Go.Proofs.Try.prog.funcs[97]? = some fn ∧ cFunc Go.Proofs.Try.prog fn = some k97 := ⟨by kernel_rfl, Go.Proofs.Try.f97, Go.Proofs.Try.func97, by kernel_rfl⟩
theorem c98 : okFunc Go.Proofs.Try.prog 98 = true ∧ ∃ fn, Go.Proofs.Try.prog.funcs[98]? = some fn ∧ cFunc Go.Proofs.Try.prog fn = some k98 := ⟨by kernel_rfl, Go.Proofs.Try.f98, Go.Proofs.Try.func98, by kernel_rfl⟩
theorem c99 : okFunc Go.Proofs.Try.prog 99 = true ∧ ∃ fn, Go.Proofs.Try.prog.funcs[99]? = some fn ∧ cFunc Go.Proofs.Try.prog fn = some k99 := ⟨by kernel_rfl, Go.Proofs.Try.f99, Go.Proofs.Try.func99, by kernel_rfl⟩
theorem c100 : okFunc Go.Proofs.Try.prog 100 = true ∧ ∃ fn, Go.Proofs.Try.prog.funcs[100]? = some fn ∧ cFunc Go.Proofs.Try.prog fn = some k100 := ⟨by kernel_rfl, Go.Proofs.Try.f100, Go.Proofs.Try.func100, by kernel_rfl⟩
theorem c101 : okFunc Go.Proofs.Try.prog 101 = true ∧ ∃ fn, Go.Proofs.Try.prog.funcs[101]? = some fn ∧ cFunc Go.Proofs.Try.prog fn = some k101 := ⟨by kernel_rfl, Go.Proofs.Try.f101, Go.Proofs.Try.func101, by kernel_rfl⟩
theorem c102 : okFunc Go.Proofs.Try.prog 102 = true ∧ ∃ fn, Go.Proofs.Try.prog.funcs[102]? = some fn ∧ cFunc Go.Proofs.Try.prog fn = some k102 := ⟨by kernel_rfl, Go.Proofs.Try.f102, Go.Proofs.Try.func102, by kernel_rfl⟩
theorem c103 : okFunc Go.Proofs.Try.prog 103 = true ∧ ∃ fn, Go.Proofs.Try.prog.funcs[103]? = some fn ∧ cFunc Go.Proofs.Try.prog fn = some k103 := ⟨by kernel_rfl, Go.Proofs.Try.f103, Go.Proofs.Try.func103, by kernel_rfl⟩
theorem c104 : okFunc Go.Proofs.Try.prog 104 = true ∧ ∃ fn, Go.Proofs.Try.prog.funcs[104]? = some fn ∧ cFunc Go.Proofs.Try.prog fn = some k104 := ⟨by kernel_rfl, Go.Proofs.Try.f104, Go.Proofs.Try.func104, by kernel_rfl⟩
theorem c105 : okFunc Go.Proofs.Try.prog 105 = true ∧ ∃ fn, Go.Proofs.Try.prog.funcs[105]? = some fn ∧ cFunc Go.Proofs.Try.prog fn = some k105 := ⟨by kernel_rfl, Go.Proofs.Try.f105, Go.Proofs.Try.func105, by kernel_rfl⟩
theorem c106 : okFunc Go.Proofs.Try.prog 106 = true ∧ ∃ fn, Go.Proofs.Try.prog.funcs[106]? = some fn ∧ cFunc Go.Proofs.Try.prog fn = some k106 := ⟨by kernel_rfl, Go.Proofs.Try.f106, Go.Proofs.Try.func106, by kernel_rfl⟩
theorem c107 : okFunc Go.Proofs.Try.prog 107 = true ∧ ∃ fn, Go.Proofs.Try.prog.funcs[107]? = some fn ∧ cFunc Go.Proofs.Try.prog fn = some k107 := ⟨by kernel_rfl, Go.Proofs.Try.f107, Go.Proofs.Try.func107, by kernel_rfl⟩
theorem c108 : okFunc Go.Proofs.Try.prog 108 = true ∧ ∃ fn, Go.Proofs.Try.prog.funcs[108]? = some fn ∧ cFunc Go.Proofs.Try.prog fn = some k108 := ⟨by kernel_rfl, Go.Proofs.Try.f108, Go.Proofs.Try.func108, by kernel_rfl⟩
theorem c109 : okFunc Go.Proofs.Try.prog 109 = true ∧ ∃ fn, Go.Proofs.Try.prog.funcs[109]? = some fn ∧ cFunc Go.Proofs.Try.prog fn = some k109 := ⟨by kernel_rfl, Go.Proofs.Try.f109, Go.Proofs.Try.func109, by kernel_rfl⟩
theorem c110 : okFunc Go.Proofs.Try.prog 110 = true ∧ ∃ fn, Go.Proofs.Try.prog.funcs[110]? = some fn ∧ cFunc Go.Proofs.Try.prog fn = some k110 := ⟨by kernel_rfl, Go.Proofs.Try.f110, Go.Proofs.Try.func110, by kernel_rfl⟩
theorem c111 : okFunc Go.Proofs.Try.prog 111 = true ∧ ∃ fn, Go.Proofs.Try.prog.funcs[111]? = some fn ∧ cFunc Go.Proofs.Try.prog fn = some k111 := ⟨by kernel_rfl, Go.Proofs.Try.f111, Go.Proofs.Try.func111, by kernel_rfl⟩
theorem c116 : okFunc Go.Proofs.Try.prog 116 = true ∧ ∃ fn, Go.Proofs.Try.prog.funcs[116]? = some fn ∧ cFunc Go.Proofs.Try.prog fn = some k116 := ⟨by kernel_rfl, Go.Proofs.Try.f116, Go.Proofs.Try.func116, by kernel_rfl⟩
theorem c118 : okFunc Go.Proofs.Try.prog 118 = true ∧ ∃ fn, Go.Proofs.Try.prog.funcs[118]? = some fn ∧ cFunc Go.Proofs.Try.prog fn = some k118 := ⟨by kernel_rfl, Go.Proofs.Try.f118, Go.Proofs.Try.func118, by kernel_rfl⟩
theorem c130 : okFunc Go.Proofs.Try.prog 130 = true ∧ ∃ fn, Go.Proofs.Try.prog.funcs[130]? = some fn ∧ cFunc Go.Proofs.Try.prog fn = some k130 := ⟨by kernel_rfl, Go.Proofs.Try.f130, Go.Proofs.Try.func130, by kernel_rfl⟩
theorem c131 : okFunc Go.Proofs.Try.prog 131 = true ∧ ∃ fn, Go.Proofs.Try.prog.funcs[131]? = some fn ∧ cFunc Go.Proofs.Try.prog fn = some k131 := ⟨by kernel_rfl, Go.Proofs.Try.f131, Go.Proofs.Try.func131, by kernel_rfl⟩
theorem c132 : okFunc Go.Proofs.Try.prog 132 = true ∧ ∃ fn, Go.Proofs.Try.prog.funcs[132]? = some fn ∧ cFunc Go.Proofs.Try.prog fn = some k132 := ⟨by kernel_rfl, Go.Proofs.Try.f132, Go.Proofs.Try.func132, by kernel_rfl⟩
theorem c133 : okFunc Go.Proofs.Try.prog 133 = true ∧ ∃ fn, Go.Proofs.Try.prog.funcs[133]? = some fn ∧ cFunc Go.Proofs.Try.prog fn = some k133 := ⟨by kernel_rfl, Go.Proofs.Try.f133, Go.Proofs.Try.func133, by kernel_rfl⟩
theorem c134 : okFunc Go.Proofs.Try.prog 134 = true ∧ ∃ fn, Go.Proofs.Try.prog.funcs[134]? = some fn ∧ cFunc Go.Proofs.Try.prog fn = some k134 := ⟨by kernel_rfl, Go.Proofs.Try.f134, Go.Proofs.Try.func134, by kernel_rfl⟩
theorem c135 : okFunc Go.Proofs.Try.prog 135 = true ∧ ∃ fn, Go.Proofs.Try.prog.funcs[135]? = some fn ∧ cFunc Go.Proofs.Try.prog fn = some k135 := ⟨by kernel_rfl, Go.Proofs.Try.f135, Go.Proofs.Try.func135, by kernel_rfl⟩
theorem c137 : okFunc Go.Proofs.Try.prog 137 = true ∧ ∃ fn, Go.Proofs.Try.prog.funcs[137]? = some fn ∧ cFunc Go.Proofs.Try.prog fn = some k137 := ⟨by kernel_rfl, Go.Proofs.Try.f137, Go.Proofs.Try.func137, by kernel_rfl⟩
theorem c138 : okFunc Go.Proofs.Try.prog 138 = true ∧ ∃ fn, Go.Proofs.Try.prog.funcs[138]? = some fn ∧ cFunc Go.Proofs.Try.prog fn = some k138 := ⟨by kernel_rfl, Go.Proofs.Try.f138, Go.Proofs.Try.func138, by kernel_rfl⟩
theorem c139 : okFunc Go.Proofs.Try.prog 139 = true ∧ ∃ fn, Go.Proofs.Try.prog.funcs[139]? = some fn ∧ cFunc Go.Proofs.Try.prog fn = some k139 := ⟨by kernel_rfl, Go.Proofs.Try.f139, Go.Proofs.Try.func139, by kernel_rfl⟩
theorem c140 : okFunc Go.Proofs.Try.prog 140 = true ∧ ∃ fn, Go.Proofs.Try.prog.funcs[140]? = some fn ∧ cFunc Go.Proofs.Try.prog fn = some k140 := ⟨by kernel_rfl, Go.Proofs.Try.f140, Go.Proofs.Try.func140, by kernel_rfl⟩
theorem c141 : okFunc Go.Proofs.Try.prog 141 = true ∧ ∃ fn, Go.Proofs.Try.prog.funcs[141]? = some fn ∧ cFunc Go.Proofs.Try.prog fn = some k141 := ⟨by kernel_rfl, Go.Proofs.Try.f141, Go.Proofs.Try.func141, by kernel_rfl⟩
theorem c142 : okFunc Go.Proofs.Try.prog 142 = true ∧ ∃ fn, Go.Proofs.Try.prog.funcs[142]? = some fn ∧ cFunc Go.Proofs.Try.prog fn = some k142 := ⟨by kernel_rfl, Go.Proofs.Try.f142, Go.Proofs.Try.func142, by kernel_rfl⟩
theorem c143 : okFunc Go.Proofs.Try.prog 143 = true ∧ ∃ fn, Go.Proofs.Try.prog.funcs[143]? = some fn ∧ cFunc Go.Proofs.Try.prog fn = some k143 := ⟨by kernel_rfl, Go.Proofs.Try.f143, Go.Proofs.Try.func143, by kernel_rfl⟩
theorem c144 : okFunc Go.Proofs.Try.prog 144 = true ∧ ∃ fn, Go.Proofs.Try.prog.funcs[144]? = some fn ∧ cFunc Go.Proofs.Try.prog fn = some k144 := ⟨by kernel_rfl, Go.Proofs.Try.f144, Go.Proofs.Try.func144, by kernel_rfl⟩
theorem c147 : okFunc Go.Proofs.Try.prog 147 = true ∧ ∃ fn, Go.Proofs.Try.prog.funcs[147]? = some fn ∧ cFunc Go.Proofs.Try.prog fn = some k147 := ⟨by kernel_rfl, Go.Proofs.Try.f147, Go.Proofs.Try.func147, by kernel_rfl⟩
theorem c148 : okFunc Go.Proofs.Try.prog 148 = true ∧ ∃ fn, Go.Proofs.Try.prog.funcs[148]? = some fn ∧ cFunc Go.Proofs.Try.prog fn = some k148 := ⟨by kernel_rfl, Go.Proofs.Try.f148, Go.Proofs.Try.func148, by kernel_rfl⟩
theorem c149 : okFunc Go.Proofs.Try.prog 149 = true ∧ ∃ fn, Go.Proofs.Try.prog.funcs[149]? = some fn ∧ cFunc Go.Proofs.Try.prog fn = some k149 := ⟨by kernel_rfl, Go.Proofs.Try.f149, Go.Proofs.Try.func149, by kernel_rfl⟩
theorem c150 : okFunc Go.Proofs.Try.prog 150 = true ∧ ∃ fn, Go.Proofs.Try.prog.funcs[150]? = some fn ∧ cFunc Go.Proofs.Try.prog fn = some k150 := ⟨by kernel_rfl, Go.Proofs.Try.f150, Go.Proofs.Try.func150, by kernel_rfl⟩
theorem c151 : okFunc Go.Proofs.Try.prog 151 = true ∧ ∃ fn, Go.Proofs.Try.prog.funcs[151]? = some fn ∧ cFunc Go.Proofs.Try.prog fn = some k151 := ⟨by kernel_rfl, Go.Proofs.Try.f151, Go.Proofs.Try.func151, by kernel_rfl⟩
theorem c152 : okFunc Go.Proofs.Try.prog 152 = true ∧ ∃ fn, Go.Proofs.Try.prog.funcs[152]? = some fn ∧ cFunc Go.Proofs.Try.prog fn = some k152 := ⟨by kernel_rfl, Go.Proofs.Try.f152, Go.Proofs.Try.func152, by kernel_rfl⟩
theorem c153 : okFunc Go.Proofs.Try.prog 153 = true ∧ ∃ fn, Go.Proofs.Try.prog.funcs[153]? = some fn ∧ cFunc Go.Proofs.Try.prog fn = some k153 := ⟨by kernel_rfl, Go.Proofs.Try.f153, Go.Proofs.Try.func153, by kernel_rfl⟩
theorem c155 : okFunc Go.Proofs.Try.prog 155 = true ∧ ∃ fn, Go.Proofs.Try.prog.funcs[155]? = some fn ∧ cFunc Go.Proofs.Try.prog fn = some k155 := ⟨by kernel_rfl, Go.Proofs.Try.f155, Go.Proofs.Try.func155, by kernel_rfl⟩
theorem c157 : okFunc Go.Proofs.Try.prog 157 = true ∧ ∃ fn, Go.Proofs.Try.prog.funcs[157]? = some fn ∧ cFunc Go.Proofs.Try.prog fn = some k157 := ⟨by kernel_rfl, Go.Proofs.Try.f157, Go.Proofs.Try.func157, by kernel_rfl⟩
theorem c158 : okFunc Go.Proofs.Try.prog 158 = true ∧ ∃ fn, Go.Proofs.Try.prog.funcs[158]? = some fn ∧ cFunc Go.Proofs.Try.prog fn = some k158 := ⟨by kernel_rfl, Go.Proofs.Try.f158, Go.Proofs.Try.func158, by kernel_rfl⟩
theorem c159 : okFunc Go.Proofs.Try.prog 159 = true ∧ ∃ fn, Go.Proofs.Try.prog.funcs[159]? = some fn ∧ cFunc Go.Proofs.Try.prog fn = some k159 := ⟨by kernel_rfl, Go.Proofs.Try.f159, Go.Proofs.Try.func159, by kernel_rfl⟩
theorem c160 : okFunc Go.Proofs.Try.prog 160 = true ∧ ∃ fn, Go.Proofs.Try.prog.funcs[160]? = some fn ∧ cFunc Go.Proofs.Try.prog fn = some k160 := ⟨by kernel_rfl, Go.Proofs.Try.f160, Go.Proofs.Try.func160, by kernel_rfl⟩
theorem c161 : okFunc Go.Proofs.Try.prog 161 = true ∧ ∃ fn, Go.Proofs.Try.prog.funcs[161]? = some fn ∧ cFunc Go.Proofs.Try.prog fn = some k161 := ⟨by kernel_rfl, Go.Proofs.Try.f161, Go.Proofs.Try.func161, by kernel_rfl⟩
theorem c162 : okFunc Go.Proofs.Try.prog 162 = true ∧ ∃ fn, Go.Proofs.Try.prog.funcs[162]? = some fn ∧ cFunc Go.Proofs.Try.prog fn = some k162 := ⟨by kernel_rfl, Go.Proofs.Try.f162, Go.Proofs.Try.func162, by kernel_rfl⟩
theorem c163 : okFunc Go.Proofs.Try.prog 163 = true ∧ ∃ fn, Go.Proofs.Try.prog.funcs[163]? = some fn ∧ cFunc Go.Proofs.Try.prog fn = some k163 := ⟨by kernel_rfl, Go.Proofs.Try.f163, Go.Proofs.Try.func163, by kernel_rfl⟩
theorem c164 : okFunc Go.Proofs.Try.prog 164 = true ∧ ∃ fn, Go.Proofs.Try.prog.funcs[164]? = some fn ∧ cFunc Go.Proofs.Try.prog fn = some k164 := ⟨by kernel_rfl, Go.Proofs.Try.f164, Go.Proofs.Try.func164, by kernel_rfl⟩
theorem c165 : okFunc Go.Proofs.Try.prog 165 = true ∧ ∃ fn, Go.Proofs.Try.prog.funcs[165]? = some fn ∧ cFunc Go.Proofs.Try.prog fn = some k165 := ⟨by kernel_rfl, Go.Proofs.Try.f165, Go.Proofs.Try.func165, by kernel_rfl⟩
theorem c166 : okFunc Go.Proofs.Try.prog 166 = true ∧ ∃ fn, Go.Proofs.Try.prog.funcs[166]? = some fn ∧ cFunc Go.Proofs.Try.prog fn = some k166 := ⟨by kernel_rfl, Go.Proofs.Try.f166, Go.Proofs.Try.func166, by kernel_rfl⟩
theorem c167 : okFunc Go.Proofs.Try.prog 167 = true ∧ ∃ fn, Go.Proofs.Try.prog.funcs[167]? = some fn ∧ cFunc Go.Proofs.Try.prog fn = some k167 := ⟨by kernel_rfl, Go.Proofs.Try.f167, Go.Proofs.Try.func167, by kernel_rfl⟩
theorem c168 : okFunc Go.Proofs.Try.prog 168 = true ∧ ∃ fn, Go.Proofs.Try.prog.funcs[168]? = some fn ∧ cFunc Go.Proofs.Try.prog fn = some k168 := ⟨by kernel_rfl, Go.Proofs.Try.f168, Go.Proofs.Try.func168, by kernel_rfl⟩
theorem c169 : okFunc Go.Proofs.Try.prog 169 = true ∧ ∃ fn, Go.Proofs.Try.prog.funcs[169]? = some fn ∧ cFunc Go.Proofs.Try.prog fn = some k169 := ⟨by kernel_rfl, Go.Proofs.Try.f169, Go.Proofs.Try.func169, by kernel_rfl⟩
theorem c170 : okFunc Go.Proofs.Try.prog 170 = true ∧ ∃ fn, Go.Proofs.Try.prog.funcs[170]? = some fn ∧ cFunc Go.Proofs.Try.prog fn = some k170 := ⟨by kernel_rfl, Go.Proofs.Try.f170, Go.Proofs.Try.func170, by kernel_rfl⟩
theorem c171 : okFunc Go.Proofs.Try.prog 171 = true ∧ ∃ fn, Go.Proofs.Try.prog.funcs[171]? = some fn ∧ cFunc Go.Proofs.Try.prog fn = some k171 := ⟨by kernel_rfl, Go.Proofs.Try.f171, Go.Proofs.Try.func171, by kernel_rfl⟩
theorem c172 : okFunc Go.Proofs.Try.prog 172 = true ∧ ∃ fn, Go.Proofs.Try.prog.funcs[172]? = some fn ∧ cFunc Go.Proofs.Try.prog fn = some k172 := ⟨by kernel_rfl, Go.Proofs.Try.f172, Go.Proofs.Try.func172, by kernel_rfl⟩
theorem c173 : okFunc Go.Proofs.Try.prog 173 = true ∧ ∃ fn, Go.Proofs.Try.prog.funcs[173]? = some fn ∧ cFunc Go.Proofs.Try.prog fn = some k173 := ⟨by kernel_rfl, Go.Proofs.Try.f173, Go.Proofs.Try.func173, by kernel_rfl⟩
theorem c174 : okFunc Go.Proofs.Try.prog 174 = true ∧ ∃ fn, Go.Proofs.Try.prog.funcs[174]? = some fn ∧ cFunc Go.Proofs.Try.prog fn = some k174 := ⟨by kernel_rfl, Go.Proofs.Try.f174, Go.Proofs.Try.func174, by kernel_rfl⟩
theorem c175 : okFunc Go.Proofs.Try.prog 175 = true ∧ ∃ fn, Go.Proofs.Try.prog.funcs[175]? = some fn ∧ cFunc Go.Proofs.Try.prog fn = some k175 := ⟨by kernel_rfl, Go.Proofs.Try.f175, Go.Proofs.Try.func175, by kernel_rfl⟩
theorem c176 : okFunc Go.Proofs.Try.prog 176 = true ∧ ∃ fn, Go.Proofs.Try.prog.funcs[176]? = some fn ∧ cFunc Go.Proofs.Try.prog fn = some k176 := ⟨by kernel_rfl, Go.Proofs.Try.f176, Go.Proofs.Try.func176, by kernel_rfl⟩
theorem c177 : okFunc Go.Proofs.Try.prog 177 = true ∧ ∃ fn, Go.Proofs.Try.prog.funcs[177]? = some fn ∧ cFunc Go.Proofs.Try.prog fn = some k177 := ⟨by kernel_rfl, Go.Proofs.Try.f177, Go.Proofs.Try.func177, by kernel_rfl⟩
theorem c178 : okFunc Go.Proofs.Try.prog 178 = true ∧ ∃ fn, Go.Proofs.Try.prog.funcs[178]? = some fn ∧ cFunc Go.Proofs.Try.prog fn = some k178 := ⟨by kernel_rfl, Go.Proofs.Try.f178, Go.Proofs.Try.func178, by kernel_rfl⟩
theorem c179 : okFunc Go.Proofs.Try.prog 179 = true ∧ ∃ fn, Go.Proofs.Try.prog.funcs[179]? = some fn ∧ cFunc Go.Proofs.Try.prog fn = some k179 := ⟨by kernel_rfl, Go.Proofs.Try.f179, Go.Proofs.Try.func179, by kernel_rfl⟩
theorem c180 : okFunc Go.Proofs.Try.prog 180 = true ∧ ∃ fn, Go.Proofs.Try.prog.funcs[180]? = some fn ∧ cFunc Go.Proofs.Try.prog fn = some k180 := ⟨by kernel_rfl, Go.Proofs.Try.f180, Go.Proofs.Try.func180, by kernel_rfl⟩
theorem c181 : okFunc Go.Proofs.Try.prog 181 = true ∧ ∃ fn, Go.Proofs.Try.prog.funcs[181]? = some fn ∧ cFunc Go.Proofs.Try.prog fn = some k181 := ⟨by kernel_rfl, Go.Proofs.Try.f181, Go.Proofs.Try.func181, by kernel_rfl⟩
theorem c184 : okFunc Go.Proofs.Try.prog 184 = true ∧ ∃ fn, Go.Proofs.Try.prog.funcs[184]? = some fn ∧ cFunc Go.Proofs.Try.prog fn = some k184 := ⟨by kernel_rfl, Go.Proofs.Try.f184, Go.Proofs.Try.func184, by kernel_rfl⟩
theorem c205 : okFunc Go.Proofs.Try.prog 205 = true ∧ ∃ fn, Go.Proofs.Try.prog.funcs[205]? = some fn ∧ cFunc Go.Proofs.Try.prog fn = some k205 := ⟨by kernel_rfl, Go.Proofs.Try.f205, Go.Proofs.Try.func205, by kernel_rfl⟩
theorem c208 : okFunc Go.Proofs.Try.prog 208 = true ∧ ∃ fn, Go.Proofs.Try.prog.funcs[208]? = some fn ∧ cFunc Go.Proofs.Try.prog fn = some k208 := ⟨by kernel_rfl, Go.Proofs.Try.f208, Go.Proofs.Try.func208, by kernel_rfl⟩
theorem c209 : okFunc Go.Proofs.Try.prog 209 = true ∧ ∃ fn, Go.Proofs.Try.prog.funcs[209]? = some fn ∧ cFunc Go.Proofs.Try.prog fn = some k209 := ⟨by kernel_rfl, Go.Proofs.Try.f209, Go.Proofs.Try.func209, by kernel_rfl⟩
theorem c210 : okFunc Go.Proofs.Try.prog 210 = true ∧ ∃ fn, Go.Proofs.Try.prog.funcs[210]? = some fn ∧ cFunc Go.Proofs.Try.prog fn = some k210 := ⟨by kernel_rfl, Go.Proofs.Try.f210, Go.Proofs.Try.func210, by kernel_rfl⟩
theorem c211 : okFunc Go.Proofs.Try.prog 211 = true ∧ ∃ fn, Go.Proofs.Try.prog.funcs[211]? = some fn ∧ cFunc Go.Proofs.Try.prog fn = some k211 := ⟨by kernel_rfl, Go.Proofs.Try.f211, Go.Proofs.Try.func211, by kernel_rfl⟩
def F : FuncId → Option KFunc
  | 4 => some k4
  | 5 => some k5
  | 6 => some k6
  | 7 => some k7
  | 8 => some k8
  | 13 => some k13
  | 14 => some k14
  | 15 => some k15
  | 18 => some k18
  | 23 => some k23
  | 24 => some k24
  | 25 => some k25
  | 26 => some k26
  | 27 => some k27
  | 28 => some k28
  | 29 => some k29
  | 30 => some k30
  | 31 => some k31
  | 32 => some k32
  | 33 => some k33
  | 34 => some k34
  | 35 => some k35
  | 36 => some k36
  | 37 => some k37
  | 38 => some k38
  | 39 => some k39
  | 40 => some k40
  | 41 => some k41
  | 42 => some k42
  | 43 => some k43
  | 44 => some k44
  | 66 => some k66
  | 67 => some k67
  | 68 => some k68
  | 69 => some k69
  | 70 => some k70
  | 71 => some k71
  | 72 => some k72
  | 73 => some k73
  | 74 => some k74
  | 75 => some k75
  | 79 => some k79
  | 80 => some k80
  | 81 => some k81
  | 82 => some k82
  | 87 => some k87
  | 89 => some k89
  | 90 => some k90
  | 91 => some k91
  | 92 => some k92
  | 93 => some k93
  | 94 => some k94
  | 95 => some k95
  | 96 => some k96
  | 97 => some k97
  | 98 => some k98
  | 99 => some k99
  | 100 => some k100
  | 101 => some k101
  | 102 => some k102
  | 103 => some k103
  | 104 => some k104
  | 105 => some k105
  | 106 => some k106
  | 107 => some k107
  | 108 => some k108
  | 109 => some k109
  | 110 => some k110
  | 111 => some k111
  | 116 => some k116
  | 118 => some k118
  | 130 => some k130
  | 131 => some k131
  | 132 => some k132
  | 133 => some k133
  | 134 => some k134
  | 135 => some k135
  | 137 => some k137
  | 138 => some k138
  | 139 => some k139
  | 140 => some k140
  | 141 => some k141
  | 142 => some k142
  | 143 => some k143
  | 144 => some k144
  | 147 => some k147
  | 148 => some k148
  | 149 => some k149
  | 150 => some k150
  | 151 => some k151
  | 152 => some k152
  | 153 => some k153
  | 155 => some k155
  | 157 => some k157
  | 158 => some k158
  | 159 => some k159
  | 160 => some k160
  | 161 => some k161
  | 162 => some k162
  | 163 => some k163
  | 164 => some k164
  | 165 => some k165
  | 166 => some k166
  | 167 => some k167
  | 168 => some k168
  | 169 => some k169
  | 170 => some k170
  | 171 => some k171
  | 172 => some k172
  | 173 => some k173
  | 174 => some k174
  | 175 => some k175
  | 176 => some k176
  | 177 => some k177
  | 178 => some k178
  | 179 => some k179
  | 180 => some k180
  | 181 => some k181
  | 184 => some k184
  | 205 => some k205
  | 208 => some k208
  | 209 => some k209
  | 210 => some k210
  | 211 => some k211
  | _ => none
def M : TypeId → String → Option (FuncId × Recv)
  | 201, "Len" => some (163, .ld)
  | 201, "Less" => some (208, .ld)
  | 201, "Swap" => some (211, .ld)
  | 201, "Pop" => some (209, .as)
  | 201, "Push" => some (210, .as)
  | _, _ => none
theorem F_ok : ∀ f k, F f = some k → okFunc Go.Proofs.Try.prog f = true ∧ ∃ fn, Go.Proofs.Try.prog.funcs[f]? = some fn ∧ cFunc Go.Proofs.Try.prog fn = some k := by
  intro f k h
  unfold F at h
  split at h
  · cases h; exact c4
  · cases h; exact c5
  · cases h; exact c6
  · cases h; exact c7
  · cases h; exact c8
  · cases h; exact c13
  · cases h; exact c14
  · cases h; exact c15
  · cases h; exact c18
  · cases h; exact c23
  · cases h; exact c24
  · cases h; exact c25
  · cases h; exact c26
  · cases h; exact c27
  · cases h; exact c28
  · cases h; exact c29
  · cases h; exact c30
  · cases h; exact c31
  · cases h; exact c32
  · cases h; exact c33
  · cases h; exact c34
  · cases h; exact c35
  · cases h; exact c36
  · cases h; exact c37
  · cases h; exact c38
  · cases h; exact c39
  · cases h; exact c40
  · cases h; exact c41
  · cases h; exact c42
  · cases h; exact c43
  · cases h; exact c44
  · cases h; exact c66
  · cases h; exact c67
  · cases h; exact c68
  · cases h; exact c69
  · cases h; exact c70
  · cases h; exact c71
  · cases h; exact c72
  · cases h; exact c73
  · cases h; exact c74
  · cases h; exact c75
  · cases h; exact c79
  · cases h; exact c80
  · cases h; exact c81
  · cases h; exact c82
  · cases h; exact c87
  · cases h; exact c89
  · cases h; exact c90
  · cases h; exact c91
  · cases h; exact c92
  · cases h; exact c93
  · cases h; exact c94
  · cases h; exact c95
  · cases h; exact c96
  · cases h; exact c97
  · cases h; exact c98
  · cases h; exact c99
  · cases h; exact c100
  · cases h; exact c101
  · cases h; exact c102
  · cases h; exact c103
  · cases h; exact c104
  · cases h; exact c105
  · cases h; exact c106
  · cases h; exact c107
  · cases h; exact c108
  · cases h; exact c109
  · cases h; exact c110
  · cases h; exact c111
  · cases h; exact c116
  · cases h; exact c118
  · cases h; exact c130
  · cases h; exact c131
  · cases h; exact c132
  · cases h; exact c133
  · cases h; exact c134
  · cases h; exact c135
  · cases h; exact c137
  · cases h; exact c138
  · cases h; exact c139
  · cases h; exact c140
  · cases h; exact c141
  · cases h; exact c142
  · cases h; exact c143
  · cases h; exact c144
  · cases h; exact c147
  · cases h; exact c148
  · cases h; exact c149
  · cases h; exact c150
  · cases h; exact c151
  · cases h; exact c152
  · cases h; exact c153
  · cases h; exact c155
  · cases h; exact c157
  · cases h; exact c158
  · cases h; exact c159
  · cases h; exact c160
  · cases h; exact c161
  · cases h; exact c162
  · cases h; exact c163
  · cases h; exact c164
  · cases h; exact c165
  · cases h; exact c166
  · cases h; exact c167
  · cases h; exact c168
  · cases h; exact c169
  · cases h; exact c170
  · cases h; exact c171
  · cases h; exact c172
  · cases h; exact c173
  · cases h; exact c174
  · cases h; exact c175
  · cases h; exact c176
  · cases h; exact c177
  · cases h; exact c178
  · cases h; exact c179
  · cases h; exact c180
  · cases h; exact c181
  · cases h; exact c184
  · cases h; exact c205
  · cases h; exact c208
  · cases h; exact c209
  · cases h; exact c210
  · cases h; exact c211
  · cases h
theorem M_ok : ∀ t n f r, M t n = some (f, r) → methOk Go.Proofs.Try.prog t n f r = true := by
  intro t n f r h
  unfold M at h
  split at h
  · cases h; kernel_rfl
  · cases h; kernel_rfl
  · cases h; kernel_rfl
  · cases h; kernel_rfl
  · cases h; kernel_rfl
  · cases h
end Go.Proofs.Ytpcpelbbeofenaa.K
