/- The functions in K's language, each held against the given translation by the kernel. Printed by a program of this work (seat.py). -/
import Derived.Test.YtlboioplemlneaaKF3
import Derived.Test.YtlboioplemlneaaProg
set_option maxRecDepth 100000
set_option linter.unusedVariables false
namespace Go.Proofs.Ytlboioplemlneaa.K
open Go Go.Proofs
def k7 : KFunc := ⟨46, (.seq (.reg [(.op (some 4) none (.mv (.c (.bool false))))]) (.seq (.seq (.reg [(.op (some 9) none (.call 28 [])), (.op (some 10) none (.un .not (.t 9)))])
  (.cond (.t 10) (.seq (.reg [(.op (some 4) none (.mv (.c (.bool false))))]) .ret) .skip)) (.seq (.seq (.reg [(.op (some 11) none (.mv (.t 0))), (.op (some 12) none
  (.call 29 [(.t 11), (.c (.int .i64 70)), (.c (.int .i64 240))])), (.op (some 13) none (.un .not (.t 12)))]) (.cond (.t 13) (.seq (.reg [(.op (some 4) none (.mv (.c
  (.bool true))))]) .ret) .skip)) (.seq (.reg [(.op (some 14) none (.mv (.t 0))), (.op (some 15) none (.mv (.t 1))), (.op (some 16) none (.call 30 [(.t 14), (.t 15)])),
  (.op (some 5) none (.mv (.t 16)))]) (.seq (.seq (.reg [(.op (some 17) none (.mv (.t 5))), (.op (some 18) none (.mv (.t 0))), (.op (some 19) none (.mv (.t 1))),
  (.op (some 20) none (.call 32 [(.t 18), (.t 19)])), (.op (some 21) none (.call 31 [(.t 17), (.t 20)])), (.op (some 22) none (.un .not (.t 21)))]) (.cond (.t 22) (.seq
  (.reg [(.op (some 4) none (.mv (.c (.bool false))))]) .ret) .skip)) (.seq (.reg [(.op (some 6) none (.mv (.c (.string (bs [])))))]) (.seq (.seq (.reg [(.op (some 23) none (.mv
  (.t 5))), (.op (some 24) none (.lenL (.t 23))), (.op (some 25) none (.mv (.c (.int .i64 0))))]) (.block 0 (.loop (.seq (.reg [(.op (some 26) none (.bin .lss (.t 25) (.t 24)))])
  (.seq (.cond (.t 26) .skip (.exit 0)) (.seq (.block 1 (.seq (.reg [(.op (some 27) none (.iad 1 (.t 23) (.t 25))), (.op (some 28) none (.ld (.t 27))), (.op (some 8) none (.mv
  (.t 28)))]) (.reg [(.op (some 29) none (.mv (.t 8))), (.op (some 30) none (.mv (.t 6))), (.op (some 31) none (.bin .add (.t 29) (.t 30))), (.op (some 6) none (.mv (.t 31)))])))
  (.reg [(.op (some 32) none (.bin .add (.t 25) (.c (.int .i64 1)))), (.op (some 25) none (.mv (.t 32)))]))))))) (.seq (.reg [(.op (some 33) none (.mv (.t 0))),
  (.op (some 34) none (.mv (.t 1))), (.op (some 35) none (.call 33 [(.t 33), (.t 34)])), (.op (some 36) none (.mv (.t 6))), (.op (some 37) none (.bin .eql (.t 35) (.t 36))),
  (.op (some 38) none (.mv (.t 37))), (.op (some 39) (some (38, true)) (.mv (.t 6))), (.op (some 40) (some (38, true)) (.lenS (.t 39))), (.op (some 41) (some (38, true)) (.mv
  (.t 1))), (.op (some 42) (some (38, true)) (.mx (.t 41) [(.c (.int .i64 0))])), (.op (some 43) (some (38, true)) (.mn (.t 42) [(.c (.int .i64 256))])), (.op (some 44) (some (38,
  true)) (.bin .leq (.t 40) (.t 43))), (.op (some 45) none (.pick (.t 38) (.t 44) (.c (.bool false)))), (.op (some 4) none (.mv (.t 45)))]) .ret)))))))), [(.t 4)]⟩
def k8 : KFunc := ⟨23, (.seq (.reg [(.op (some 4) none (.mv (.c (.bool false))))]) (.seq (.seq (.reg [(.op (some 5) none (.call 28 [])), (.op (some 6) none (.un .not (.t 5)))])
  (.cond (.t 6) (.seq (.reg [(.op (some 4) none (.mv (.c (.bool false))))]) .ret) .skip)) (.seq (.seq (.reg [(.op (some 7) none (.mv (.t 0))), (.op (some 8) none
  (.call 29 [(.t 7), (.c (.int .i64 70)), (.c (.int .i64 400))])), (.op (some 9) none (.un .not (.t 8))), (.op (some 10) none (.mv (.t 9))), (.op (some 11) (some (10, false)) (.mv
  (.t 1))), (.op (some 12) (some (10, false)) (.lenS (.t 11))), (.op (some 13) (some (10, false)) (.bin .gtr (.t 12) (.c (.int .i64 60)))), (.op (some 14) none (.pick (.t 10) (.c
  (.bool true)) (.t 13)))]) (.cond (.t 14) (.seq (.reg [(.op (some 4) none (.mv (.c (.bool true))))]) .ret) .skip)) (.seq (.reg [(.op (some 15) none (.mv (.t 0))),
  (.op (some 16) none (.mv (.t 1))), (.op (some 17) none (.call 34 [(.t 15), (.t 16)])), (.op (some 18) none (.mv (.t 0))), (.op (some 19) none (.call 36 [(.t 18)])),
  (.op (some 20) none (.mv (.t 1))), (.op (some 21) none (.call 35 [(.t 19), (.t 20), (.c (.slice none 0 0))])), (.op (some 22) none (.bin .eql (.t 17) (.t 21))),
  (.op (some 4) none (.mv (.t 22)))]) .ret)))), [(.t 4)]⟩
def k9 : KFunc := ⟨72, (.seq (.reg [(.op (some 4) none (.mv (.c (.bool false))))]) (.seq (.seq (.reg [(.op (some 9) none (.call 28 [])), (.op (some 10) none (.un .not (.t 9)))])
  (.cond (.t 10) (.seq (.reg [(.op (some 4) none (.mv (.c (.bool false))))]) .ret) .skip)) (.seq (.seq (.reg [(.op (some 11) none (.mv (.t 0))), (.op (some 12) none
  (.call 29 [(.t 11), (.c (.int .i64 40)), (.c (.int .i64 600))])), (.op (some 13) none (.un .not (.t 12)))]) (.cond (.t 13) (.seq (.reg [(.op (some 4) none (.mv (.c
  (.bool true))))]) .ret) .skip)) (.seq (.reg [(.op (some 14) none (.mv (.t 0))), (.op (some 15) none (.mv (.t 1))), (.op (some 16) none (.call 30 [(.t 14), (.t 15)])),
  (.op (some 5) none (.mv (.t 16)))]) (.seq (.seq (.reg [(.op (some 17) none (.mv (.t 5))), (.op (some 18) none (.lenL (.t 17))), (.op (some 19) none (.mv (.c (.int .i64 0))))])
  (.block 0 (.loop (.seq (.reg [(.op (some 20) none (.bin .lss (.t 19) (.t 18)))]) (.seq (.cond (.t 20) .skip (.exit 0)) (.seq (.block 1 (.seq (.reg [(.op (some 21) none (.mv
  (.t 19))), (.op (some 22) none (.iad 1 (.t 17) (.t 19))), (.op (some 23) none (.ld (.t 22))), (.op (some 6) none (.mv (.t 21))), (.op (some 7) none (.mv (.t 23)))]) (.seq
  (.reg [(.op (some 24) none (.mv (.t 0))), (.op (some 26) none (.mv (.t 7))), (.op (some 27) none (.mv (.t 5))), (.op (some 28) none (.mv (.t 6))), (.op (some 29) none (.slc 9 1
  (.t 27) none (some (.t 28)))), (.op (some 25) none (.call 36 [(.t 24)])), (.chk 29 none (.slc 9 1 (.t 27) none (some (.t 28)))), (.op (some 30) none (.call 35 [(.t 25), (.t 26),
  (.t 29)])), (.op (some 8) none (.mv (.t 30)))]) (.seq (.reg [(.op (some 31) none (.mv (.t 8))), (.op (some 32) none (.bin .lss (.t 31) (.c (.int .i64 1)))), (.op (some 33) none
  (.mv (.t 32))), (.op (some 34) (some (33, false)) (.mv (.t 7))), (.op (some 35) (some (33, false)) (.lenS (.t 34))), (.op (some 36) (some (33, false)) (.bin .lss (.t 35) (.c
  (.int .i64 6)))), (.op (some 37) none (.pick (.t 33) (.c (.bool true)) (.t 36))), (.op (some 38) none (.mv (.t 37))), (.op (some 39) (some (38, false)) (.mv (.t 7))),
  (.op (some 40) (some (38, false)) (.lenS (.t 39))), (.op (some 41) (some (38, false)) (.bin .gtr (.t 40) (.c (.int .i64 16)))), (.op (some 42) none (.pick (.t 38) (.c
  (.bool true)) (.t 41))), (.op (some 43) none (.mv (.t 42))), (.op (some 44) (some (43, false)) (.mv (.t 6))), (.op (some 45) (some (43, false)) (.bin .gtr (.t 44) (.c
  (.int .i64 0)))), (.op (some 46) (some (43, false)) (.mv (.t 45))), (.op (some 47) (some (46, true)) (.mv (.t 8))), (.op (some 48) (some (46, true)) (.mv (.t 0))),
  (.op (some 50) (some (46, true)) (.mv (.t 5))), (.op (some 51) (some (46, true)) (.mv (.t 6))), (.op (some 52) (some (46, true)) (.bin .sub (.t 51) (.c (.int .i64 1)))),
  (.op (some 53) (some (46, true)) (.iad 1 (.t 50) (.t 52))), (.op (some 54) (some (46, true)) (.ld (.t 53))), (.op (some 55) (some (46, true)) (.mv (.t 5))),
  (.op (some 56) (some (46, true)) (.mv (.t 6))), (.op (some 57) (some (46, true)) (.bin .sub (.t 56) (.c (.int .i64 1)))), (.op (some 58) (some (46, true)) (.slc 9 1
  (.t 55) none (some (.t 57)))), (.op (some 49) (some (46, true)) (.call 36 [(.t 48)])), (.chk 54 (some (46, true)) (.ld (.t 53))), (.chk 58 (some (46, true)) (.slc 9 1
  (.t 55) none (some (.t 57)))), (.op (some 59) (some (46, true)) (.call 35 [(.t 49), (.t 54), (.t 58)])), (.op (some 60) (some (46, true)) (.bin .gtr (.t 47) (.t 59))),
  (.op (some 61) (some (43, false)) (.pick (.t 46) (.t 60) (.c (.bool false)))), (.op (some 62) none (.pick (.t 43) (.c (.bool true)) (.t 61)))]) (.cond (.t 62) (.seq
  (.reg [(.op (some 4) none (.mv (.c (.bool false))))]) .ret) .skip))))) (.reg [(.op (some 63) none (.bin .add (.t 19) (.c (.int .i64 1)))), (.op (some 19) none (.mv
  (.t 63)))]))))))) (.seq (.reg [(.op (some 64) none (.mv (.t 0))), (.op (some 65) none (.lenL (.t 64))), (.op (some 66) none (.bin .gtr (.t 65) (.c (.int .i64 1)))),
  (.op (some 67) none (.mv (.t 66))), (.op (some 68) (some (67, false)) (.mv (.t 5))), (.op (some 69) (some (67, false)) (.lenL (.t 68))), (.op (some 70) (some (67, false))
  (.bin .eql (.t 69) (.c (.int .i64 0)))), (.op (some 71) none (.pick (.t 67) (.c (.bool true)) (.t 70))), (.op (some 4) none (.mv (.t 71)))]) .ret)))))), [(.t 4)]⟩
def k22 : KFunc := ⟨40, (.seq (.reg [(.op (some 2) none (.mv (.c (.bool false))))]) (.seq (.seq (.reg [(.op (some 6) none (.mv (.t 0))), (.op (some 7) none (.call 59 [(.t 6)])),
  (.op (some 8) none (.un .not (.t 7)))]) (.cond (.t 8) (.seq (.reg [(.op (some 2) none (.mv (.c (.bool false))))]) .ret) .skip)) (.seq (.reg [(.op (some 3) none (.mv (.c
  (.int .i64 0))))]) (.seq (.reg [(.op (some 4) none (.mv (.c (.int .i64 0))))]) (.seq (.seq (.reg [(.op (some 5) none (.mv (.c (.int .i64 0))))]) (.block 0 (.loop (.seq (.seq
  (.reg [(.op (some 9) none (.mv (.t 5))), (.op (some 10) none (.mv (.t 0))), (.op (some 11) none (.lenL (.t 10))), (.op (some 12) none (.bin .lss (.t 9) (.t 11)))]) (.cond
  (.t 12) .skip (.exit 0))) (.seq (.block 1 (.seq (.reg [(.op (some 15) none (.mv (.t 0))), (.op (some 16) none (.mv (.t 5))), (.op (some 17) none (.iad 1 (.t 15) (.t 16))),
  (.op (some 18) none (.ld (.t 17))), (.op (some 19) none (.bin .gtr (.t 18) (.c (.int .i64 0))))]) (.cond (.t 19) (.seq (.reg [(.op (some 20) none (.mv (.t 3))),
  (.op (some 21) none (.mv (.t 0))), (.op (some 22) none (.mv (.t 5))), (.op (some 23) none (.iad 1 (.t 21) (.t 22))), (.op (some 24) none (.ld (.t 23))), (.op (some 25) none
  (.bin .sub (.c (.int .i64 11)) (.t 24))), (.op (some 26) none (.call 60 [(.t 25)])), (.op (some 27) none (.bin .add (.t 20) (.t 26))), (.op (some 3) none (.mv (.t 27)))])
  (.reg [(.op (some 28) none (.mv (.t 4))), (.op (some 29) none (.bin .add (.t 28) (.c (.int .i64 1)))), (.op (some 4) none (.mv (.t 29)))])) .skip))) (.reg [(.op (some 13) none
  (.mv (.t 5))), (.op (some 14) none (.bin .add (.t 13) (.c (.int .i64 1)))), (.op (some 5) none (.mv (.t 14)))])))))) (.seq (.reg [(.op (some 30) none (.mv (.t 3))),
  (.op (some 31) none (.bin .eql (.t 30) (.c (.int .i64 2048)))), (.op (some 32) none (.mv (.t 31))), (.op (some 33) (some (32, false)) (.mv (.t 4))), (.op (some 34) (some (32,
  false)) (.bin .eql (.t 33) (.c (.int .i64 1)))), (.op (some 35) (some (32, false)) (.mv (.t 34))), (.op (some 36) (some (35, true)) (.mv (.t 3))), (.op (some 37) (some (35,
  true)) (.bin .eql (.t 36) (.c (.int .i64 1024)))), (.op (some 38) (some (32, false)) (.pick (.t 35) (.t 37) (.c (.bool false)))), (.op (some 39) none (.pick (.t 32) (.c
  (.bool true)) (.t 38))), (.op (some 2) none (.mv (.t 39)))]) .ret)))))), [(.t 2)]⟩
def k28 : KFunc := ⟨17, (.seq (.reg [(.op (some 0) none (.mv (.c (.bool false))))]) (.seq (.reg [(.op (some 2) none (.bsl 9 2 [(.string (bs [])), (.string (bs []))] [(0, (1, (.c
  (.string (bs [104, 101, 108, 108, 111, 32, 119, 111, 114, 108, 100]))))), (1, (1, (.c (.string (bs [104, 101, 108, 108, 111, 32, 119, 111, 114, 108, 100])))))])),
  (.op (some 1) none (.mv (.t 2)))]) (.seq (.reg [(.op (some 3) none (.mv (.t 1))), (.op (some 4) none (.call 33 [(.t 3), (.c (.int .i64 99))])), (.op (some 5) none (.bin .eql
  (.t 4) (.c (.string (bs [104, 101, 108, 108, 111, 32, 119, 111, 114, 108, 100]))))), (.op (some 6) none (.mv (.t 5))), (.op (some 7) (some (6, true)) (.mv (.t 1))),
  (.op (some 8) (some (6, true)) (.call 34 [(.t 7), (.c (.string (bs [104, 101, 108, 108, 111, 32, 119, 111, 114, 108, 100])))])), (.op (some 9) (some (6, true)) (.bin .eql (.t 8)
  (.c (.int .i64 6)))), (.op (some 10) none (.pick (.t 6) (.t 9) (.c (.bool false)))), (.op (some 11) none (.mv (.t 10))), (.op (some 12) (some (11, true)) (.mv (.t 1))),
  (.op (some 13) (some (11, true)) (.call 30 [(.t 12), (.c (.int .i64 10))])), (.op (some 14) (some (11, true)) (.lenL (.t 13))), (.op (some 15) (some (11, true)) (.bin .eql
  (.t 14) (.c (.int .i64 0)))), (.op (some 16) none (.pick (.t 11) (.t 15) (.c (.bool false)))), (.op (some 0) none (.mv (.t 16)))]) .ret))), [(.t 0)]⟩
def k29 : KFunc := ⟨26, (.seq (.reg [(.op (some 6) none (.mv (.c (.bool false))))]) (.seq (.seq (.reg [(.op (some 9) none (.mv (.t 0))), (.op (some 10) none (.lenL (.t 9))),
  (.op (some 11) none (.mv (.t 1))), (.op (some 12) none (.bin .gtr (.t 10) (.t 11)))]) (.cond (.t 12) (.seq (.reg [(.op (some 6) none (.mv (.c (.bool false))))]) .ret) .skip))
  (.seq (.seq (.reg [(.op (some 13) none (.mv (.t 0))), (.op (some 14) none (.lenL (.t 13))), (.op (some 15) none (.mv (.c (.int .i64 0))))]) (.block 0 (.loop (.seq
  (.reg [(.op (some 16) none (.bin .lss (.t 15) (.t 14)))]) (.seq (.cond (.t 16) .skip (.exit 0)) (.seq (.block 1 (.seq (.reg [(.op (some 17) none (.iad 1 (.t 13) (.t 15))),
  (.op (some 18) none (.ld (.t 17))), (.op (some 8) none (.mv (.t 18)))]) (.seq (.reg [(.op (some 19) none (.mv (.t 2))), (.op (some 20) none (.mv (.t 8))), (.op (some 21) none
  (.lenS (.t 20))), (.op (some 22) none (.bin .sub (.t 19) (.t 21))), (.op (some 2) none (.mv (.t 22)))]) (.seq (.reg [(.op (some 23) none (.mv (.t 2))), (.op (some 24) none
  (.bin .lss (.t 23) (.c (.int .i64 0))))]) (.cond (.t 24) (.seq (.reg [(.op (some 6) none (.mv (.c (.bool false))))]) .ret) .skip))))) (.reg [(.op (some 25) none (.bin .add
  (.t 15) (.c (.int .i64 1)))), (.op (some 15) none (.mv (.t 25)))]))))))) (.seq (.reg [(.op (some 6) none (.mv (.c (.bool true))))]) .ret)))), [(.t 6)]⟩
def k30 : KFunc := ⟨51, (.seq (.reg [(.op (some 4) none (.mv (.c (.slice none 0 0))))]) (.seq (.reg [(.op (some 11) none (.mv (.t 1))), (.op (some 12) none (.mx (.t 11) [(.c
  (.int .i64 0))])), (.op (some 13) none (.mn (.t 12) [(.c (.int .i64 256))])), (.op (some 1) none (.mv (.t 13)))]) (.seq (.reg [(.op (some 14) none (.mv (.t 0))),
  (.op (some 15) none (.call 76 [(.t 14)])), (.op (some 5) none (.mv (.t 15)))]) (.seq (.reg [(.op (some 16) none (.mv (.t 5))), (.op (some 17) none (.call 77 [(.t 16)])),
  (.op (some 6) none (.mv (.t 17)))]) (.seq (.reg [(.op (some 18) none (.mv (.t 5))), (.op (some 19) none (.mv (.t 6))), (.op (some 20) none (.call 78 [(.t 18), (.t 19)])),
  (.op (some 7) none (.mv (.t 20)))]) (.seq (.reg [(.op (some 8) none (.mv (.c (.slice none 0 0))))]) (.block 0 (.loop (.block 1 (.seq (.reg [(.op (some 22) none (.mv (.t 7))),
  (.op (some 23) none (.mv (.t 6))), (.op (some 24) none (.call 79 [(.t 22), (.t 23)])), (.op (some 21) none (.mv (.t 24))), (.op (some 25) none (.xt (.t 21) 0)),
  (.op (some 26) none (.xt (.t 21) 1)), (.op (some 9) none (.alloc 112 [(.string (bs [])), (.int .i64 0), (.int .i64 0)])), (.op none none (.stn 3 (.t 9) (.t 25))),
  (.op (some 10) none (.mv (.t 26)))]) (.seq (.seq (.reg [(.op (some 27) none (.mv (.t 10))), (.op (some 28) none (.un .not (.t 27))), (.op (some 29) none (.mv (.t 28))),
  (.op (some 30) (some (29, false)) (.fad 0 (.t 9))), (.op (some 31) (some (29, false)) (.ld (.t 30))), (.op (some 32) (some (29, false)) (.lenS (.t 31))),
  (.op (some 33) (some (29, false)) (.mv (.t 1))), (.op (some 34) (some (29, false)) (.bin .gtr (.t 32) (.t 33))), (.op (some 35) none (.pick (.t 29) (.c (.bool true)) (.t 34)))])
  (.cond (.t 35) (.seq (.reg [(.op (some 36) none (.mv (.t 8))), (.op (some 4) none (.mv (.t 36)))]) .ret) .skip)) (.seq (.reg [(.op (some 37) none (.mv (.t 1))),
  (.op (some 38) none (.fad 0 (.t 9))), (.op (some 39) none (.ld (.t 38))), (.op (some 40) none (.lenS (.t 39))), (.op (some 41) none (.bin .sub (.t 37) (.t 40))),
  (.op (some 1) none (.mv (.t 41)))]) (.seq (.reg [(.op (some 42) none (.mv (.t 6))), (.op (some 43) none (.fad 0 (.t 9))), (.op (some 44) none (.ld (.t 43))), (.op (some 45) none
  (.call 80 [(.t 42), (.t 44)]))]) (.reg [(.op (some 46) none (.mv (.t 8))), (.op (some 47) none (.fad 0 (.t 9))), (.op (some 48) none (.ld (.t 47))), (.op (some 49) none
  (.bsl 9 1 [(.string (bs []))] [(0, (1, (.t 48)))])), (.op (some 50) none (.app 9 1 16 (.t 46) (.t 49))), (.op (some 8) none (.mv (.t 50)))])))))))))))))), [(.t 4)]⟩
def k31 : KFunc := ⟨26, (.seq (.reg [(.op (some 4) none (.mv (.c (.bool false))))]) (.seq (.seq (.reg [(.op (some 6) none (.mv (.t 0))), (.op (some 7) none (.lenL (.t 6))),
  (.op (some 8) none (.mv (.t 1))), (.op (some 9) none (.lenL (.t 8))), (.op (some 10) none (.bin .neq (.t 7) (.t 9)))]) (.cond (.t 10) (.seq (.reg [(.op (some 4) none (.mv (.c
  (.bool false))))]) .ret) .skip)) (.seq (.seq (.reg [(.op (some 11) none (.mv (.t 0))), (.op (some 12) none (.lenL (.t 11))), (.op (some 13) none (.mv (.c (.int .i64 0))))])
  (.block 0 (.loop (.seq (.reg [(.op (some 14) none (.bin .lss (.t 13) (.t 12)))]) (.seq (.cond (.t 14) .skip (.exit 0)) (.seq (.block 1 (.seq (.reg [(.op (some 15) none (.mv
  (.t 13))), (.op (some 5) none (.mv (.t 15)))]) (.seq (.reg [(.op (some 16) none (.mv (.t 0))), (.op (some 17) none (.mv (.t 5))), (.op (some 18) none (.iad 1 (.t 16) (.t 17))),
  (.op (some 19) none (.ld (.t 18))), (.op (some 20) none (.mv (.t 1))), (.op (some 21) none (.mv (.t 5))), (.op (some 22) none (.iad 1 (.t 20) (.t 21))), (.op (some 23) none (.ld
  (.t 22))), (.op (some 24) none (.bin .neq (.t 19) (.t 23)))]) (.cond (.t 24) (.seq (.reg [(.op (some 4) none (.mv (.c (.bool false))))]) .ret) .skip))))
  (.reg [(.op (some 25) none (.bin .add (.t 13) (.c (.int .i64 1)))), (.op (some 13) none (.mv (.t 25)))]))))))) (.seq (.reg [(.op (some 4) none (.mv (.c
  (.bool true))))]) .ret)))), [(.t 4)]⟩
def k32 : KFunc := ⟨87, (.seq (.reg [(.op (some 4) none (.mv (.c (.slice none 0 0))))]) (.seq (.reg [(.op (some 13) none (.mv (.t 0))), (.op (some 14) none (.call 36 [(.t 13)])),
  (.op (some 5) none (.mv (.t 14)))]) (.seq (.seq (.reg [(.op (some 15) none (.mv (.t 1))), (.op (some 16) none (.bin .gtr (.t 15) (.c (.int .i64 256))))]) (.cond (.t 16)
  (.reg [(.op (some 1) none (.mv (.c (.int .i64 256))))]) .skip)) (.seq (.reg [(.op (some 6) none (.mv (.c (.slice none 0 0))))]) (.seq (.block 0 (.loop (.block 1 (.seq
  (.reg [(.op (some 7) none (.mv (.c (.string (bs [])))))]) (.seq (.reg [(.op (some 8) none (.mv (.c (.int .i64 0))))]) (.seq (.seq (.reg [(.op (some 9) none (.mv (.c
  (.int .i64 0))))]) (.block 2 (.loop (.seq (.seq (.reg [(.op (some 17) none (.mv (.t 9))), (.op (some 18) none (.mv (.t 5))), (.op (some 19) none (.lenL (.t 18))),
  (.op (some 20) none (.bin .lss (.t 17) (.t 19)))]) (.cond (.t 20) .skip (.exit 2))) (.seq (.block 3 (.seq (.reg [(.op (some 23) none (.mv (.t 5))), (.op (some 24) none (.mv
  (.t 9))), (.op (some 25) none (.iad 1 (.t 23) (.t 24))), (.op (some 26) none (.ld (.t 25))), (.op (some 27) none (.lenS (.t 26))), (.op (some 10) none (.mv (.t 27)))]) (.seq
  (.seq (.reg [(.op (some 28) none (.mv (.t 10))), (.op (some 29) none (.bin .gtr (.t 28) (.c (.int .i64 16))))]) (.cond (.t 29) (.reg [(.op (some 10) none (.mv (.c
  (.int .i64 16))))]) .skip)) (.seq (.reg [(.op (some 11) none (.mv (.c (.int .i64 0))))]) (.block 4 (.loop (.seq (.seq (.reg [(.op (some 30) none (.mv (.t 10))),
  (.op (some 31) none (.bin .geq (.t 30) (.c (.int .i64 6)))), (.op (some 32) none (.mv (.t 31))), (.op (some 33) (some (32, true)) (.mv (.t 11))), (.op (some 34) (some (32,
  true)) (.mv (.t 10))), (.op (some 35) (some (32, true)) (.bin .add (.t 33) (.t 34))), (.op (some 36) (some (32, true)) (.mv (.t 5))), (.op (some 37) (some (32, true)) (.mv
  (.t 9))), (.op (some 38) (some (32, true)) (.iad 1 (.t 36) (.t 37))), (.op (some 39) (some (32, true)) (.ld (.t 38))), (.op (some 40) (some (32, true)) (.lenS (.t 39))),
  (.op (some 41) (some (32, true)) (.bin .leq (.t 35) (.t 40))), (.op (some 42) none (.pick (.t 32) (.t 41) (.c (.bool false))))]) (.cond (.t 42) .skip (.exit 4))) (.seq (.block 5
  (.seq (.reg [(.op (some 45) none (.mv (.t 5))), (.op (some 46) none (.mv (.t 5))), (.op (some 47) none (.mv (.t 9))), (.op (some 48) none (.iad 1 (.t 46) (.t 47))),
  (.op (some 49) none (.ld (.t 48))), (.op (some 50) none (.mv (.t 11))), (.op (some 51) none (.mv (.t 11))), (.op (some 52) none (.mv (.t 10))), (.op (some 53) none (.bin .add
  (.t 51) (.t 52))), (.op (some 54) none (.slS (.t 49) (some (.t 50)) (some (.t 53)))), (.op (some 55) none (.mv (.t 6))), (.op (some 56) none (.call 35 [(.t 45), (.t 54),
  (.t 55)])), (.op (some 12) none (.mv (.t 56)))]) (.seq (.reg [(.op (some 57) none (.mv (.t 12))), (.op (some 58) none (.mv (.t 8))), (.op (some 59) none (.bin .gtr (.t 57)
  (.t 58)))]) (.cond (.t 59) (.seq (.reg [(.op (some 60) none (.mv (.t 12))), (.op (some 8) none (.mv (.t 60)))]) (.reg [(.op (some 61) none (.mv (.t 5))), (.op (some 62) none
  (.mv (.t 9))), (.op (some 63) none (.iad 1 (.t 61) (.t 62))), (.op (some 64) none (.ld (.t 63))), (.op (some 65) none (.mv (.t 11))), (.op (some 66) none (.mv (.t 11))),
  (.op (some 67) none (.mv (.t 10))), (.op (some 68) none (.bin .add (.t 66) (.t 67))), (.op (some 69) none (.slS (.t 64) (some (.t 65)) (some (.t 68)))), (.op (some 7) none (.mv
  (.t 69)))])) .skip)))) (.reg [(.op (some 43) none (.mv (.t 11))), (.op (some 44) none (.bin .add (.t 43) (.c (.int .i64 1)))), (.op (some 11) none (.mv (.t 44)))])))))))))
  (.reg [(.op (some 21) none (.mv (.t 9))), (.op (some 22) none (.bin .add (.t 21) (.c (.int .i64 1)))), (.op (some 9) none (.mv (.t 22)))])))))) (.seq (.seq
  (.reg [(.op (some 70) none (.mv (.t 8))), (.op (some 71) none (.bin .eql (.t 70) (.c (.int .i64 0)))), (.op (some 72) none (.mv (.t 71))), (.op (some 73) (some (72, false)) (.mv
  (.t 7))), (.op (some 74) (some (72, false)) (.lenS (.t 73))), (.op (some 75) (some (72, false)) (.mv (.t 1))), (.op (some 76) (some (72, false)) (.bin .gtr (.t 74) (.t 75))),
  (.op (some 77) none (.pick (.t 72) (.c (.bool true)) (.t 76)))]) (.cond (.t 77) (.exit 0) .skip)) (.seq (.reg [(.op (some 78) none (.mv (.t 1))), (.op (some 79) none (.mv
  (.t 7))), (.op (some 80) none (.lenS (.t 79))), (.op (some 81) none (.bin .sub (.t 78) (.t 80))), (.op (some 1) none (.mv (.t 81)))]) (.reg [(.op (some 82) none (.mv (.t 6))),
  (.op (some 83) none (.mv (.t 7))), (.op (some 84) none (.bsl 9 1 [(.string (bs []))] [(0, (1, (.t 83)))])), (.op (some 85) none (.app 9 1 16 (.t 82) (.t 84))),
  (.op (some 6) none (.mv (.t 85)))]))))))))) (.seq (.reg [(.op (some 86) none (.mv (.t 6))), (.op (some 4) none (.mv (.t 86)))]) .ret)))))), [(.t 4)]⟩
def k33 : KFunc := ⟨13, (.seq (.reg [(.op (some 4) none (.mv (.c (.string (bs [])))))]) (.seq (.reg [(.op (some 6) none (.mv (.t 0))), (.op (some 7) none (.mv (.t 1))),
  (.op (some 8) none (.call 30 [(.t 6), (.t 7)])), (.op (some 5) none (.mv (.t 8)))]) (.seq (.reg [(.op (some 9) none (.mv (.t 5))), (.op (some 10) none (.call 81 [(.t 9)]))])
  (.seq (.reg [(.op (some 11) none (.mv (.t 5))), (.op (some 12) none (.call 82 [(.t 11), (.c (.string (bs [])))])), (.op (some 4) none (.mv (.t 12)))]) .ret)))), [(.t 4)]⟩
def k34 : KFunc := ⟨10, (.seq (.reg [(.op (some 4) none (.mv (.c (.int .i64 0))))]) (.seq (.reg [(.op (some 5) none (.mv (.t 0))), (.op (some 6) none (.call 76 [(.t 5)])),
  (.op (some 7) none (.call 77 [(.t 6)])), (.op (some 8) none (.mv (.t 1))), (.op (some 9) none (.call 83 [(.t 7), (.t 8)])), (.op (some 4) none (.mv (.t 9)))]) .ret)), [(.t 4)]⟩
def k35 : KFunc := ⟨39, (.seq (.reg [(.op (some 6) none (.mv (.c (.int .i64 0))))]) (.seq (.reg [(.op (some 7) none (.mv (.c (.int .i64 0))))]) (.seq (.seq
  (.reg [(.op (some 8) none (.mv (.c (.int .i64 0))))]) (.block 0 (.loop (.seq (.seq (.reg [(.op (some 10) none (.mv (.t 8))), (.op (some 11) none (.bin .add (.t 10) (.c
  (.int .i64 6)))), (.op (some 12) none (.mv (.t 1))), (.op (some 13) none (.lenS (.t 12))), (.op (some 14) none (.bin .leq (.t 11) (.t 13)))]) (.cond (.t 14) .skip (.exit 0)))
  (.seq (.block 1 (.seq (.reg [(.op (some 17) none (.mv (.t 1))), (.op (some 18) none (.mv (.t 8))), (.op (some 19) none (.mv (.t 8))), (.op (some 20) none (.bin .add (.t 19) (.c
  (.int .i64 6)))), (.op (some 21) none (.slS (.t 17) (some (.t 18)) (some (.t 20)))), (.op (some 9) none (.mv (.t 21)))]) (.seq (.seq (.reg [(.op (some 22) none (.mv (.t 1))),
  (.op (some 23) none (.mv (.t 8))), (.op (some 24) none (.bin .add (.t 23) (.c (.int .i64 5)))), (.op (some 25) none (.slS (.t 22) none (some (.t 24)))), (.op (some 26) none (.mv
  (.t 9))), (.op (some 27) none (.call 84 [(.t 25), (.t 26)])), (.op (some 28) none (.mv (.t 27))), (.op (some 29) (some (28, false)) (.mv (.t 2))), (.op (some 30) (some (28,
  false)) (.mv (.t 9))), (.op (some 31) (some (28, false)) (.call 85 [(.t 29), (.t 30)])), (.op (some 32) none (.pick (.t 28) (.c (.bool true)) (.t 31)))]) (.cond (.t 32)
  (.exit 1) .skip)) (.reg [(.op (some 33) none (.mv (.t 7))), (.op (some 34) none (.mv (.t 0))), (.op (some 35) none (.mv (.t 9))), (.op (some 36) none (.call 86 [(.t 34),
  (.t 35)])), (.op (some 37) none (.bin .add (.t 33) (.t 36))), (.op (some 7) none (.mv (.t 37)))])))) (.reg [(.op (some 15) none (.mv (.t 8))), (.op (some 16) none (.bin .add
  (.t 15) (.c (.int .i64 1)))), (.op (some 8) none (.mv (.t 16)))])))))) (.seq (.reg [(.op (some 38) none (.mv (.t 7))), (.op (some 6) none (.mv (.t 38)))]) .ret)))), [(.t 6)]⟩
def k36 : KFunc := ⟨30, (.seq (.reg [(.op (some 2) none (.mv (.c (.slice none 0 0))))]) (.seq (.reg [(.op (some 3) none (.mv (.c (.slice none 0 0))))]) (.seq (.seq
  (.reg [(.op (some 4) none (.mv (.c (.int .i64 0))))]) (.block 0 (.loop (.seq (.seq (.reg [(.op (some 6) none (.mv (.t 4))), (.op (some 7) none (.mv (.t 0))), (.op (some 8) none
  (.lenL (.t 7))), (.op (some 9) none (.bin .lss (.t 6) (.t 8))), (.op (some 10) none (.mv (.t 9))), (.op (some 11) (some (10, true)) (.mv (.t 4))), (.op (some 12) (some (10,
  true)) (.bin .lss (.t 11) (.c (.int .i64 64)))), (.op (some 13) none (.pick (.t 10) (.t 12) (.c (.bool false))))]) (.cond (.t 13) .skip (.exit 0))) (.seq (.block 1 (.seq
  (.reg [(.op (some 16) none (.mv (.t 0))), (.op (some 17) none (.mv (.t 4))), (.op (some 18) none (.iad 1 (.t 16) (.t 17))), (.op (some 19) none (.ld (.t 18))),
  (.op (some 5) none (.mv (.t 19)))]) (.seq (.seq (.reg [(.op (some 20) none (.mv (.t 5))), (.op (some 21) none (.lenS (.t 20))), (.op (some 22) none (.bin .gtr (.t 21) (.c
  (.int .i64 512))))]) (.cond (.t 22) (.reg [(.op (some 23) none (.mv (.t 5))), (.op (some 24) none (.slS (.t 23) none (some (.c (.int .i64 512))))), (.op (some 5) none (.mv
  (.t 24)))]) .skip)) (.reg [(.op (some 25) none (.mv (.t 3))), (.op (some 26) none (.mv (.t 5))), (.op (some 27) none (.bsl 9 1 [(.string (bs []))] [(0, (1, (.t 26)))])),
  (.op (some 28) none (.app 9 1 16 (.t 25) (.t 27))), (.op (some 3) none (.mv (.t 28)))])))) (.reg [(.op (some 14) none (.mv (.t 4))), (.op (some 15) none (.bin .add (.t 14) (.c
  (.int .i64 1)))), (.op (some 4) none (.mv (.t 15)))])))))) (.seq (.reg [(.op (some 29) none (.mv (.t 3))), (.op (some 2) none (.mv (.t 29)))]) .ret)))), [(.t 2)]⟩
def k49 : KFunc := ⟨6, (.seq (.reg [(.op (some 2) none (.mv (.c (.pointer none))))]) (.seq (.reg [(.op (some 3) none (.mv (.t 0))), (.op (some 4) none (.build [(.string (bs [])),
  (.bool false)] [(0, (1, (.t 3)))])), (.op (some 5) none (.box 134 (.t 4))), (.op (some 2) none (.mv (.t 5)))]) .ret)), [(.t 2)]⟩
def k57 : KFunc := ⟨12, (.seq (.reg [(.op (some 2) none (.mv (.c (.string (bs [])))))]) (.seq (.seq (.reg [(.op (some 3) none (.mv (.t 0))), (.op (some 4) none
  (.call 101 [(.t 3)]))]) (.cond (.t 4) (.seq (.reg [(.op (some 2) none (.mv (.c (.string (bs [])))))]) .ret) .skip)) (.seq (.reg [(.op (some 5) none (.mv (.t 0))),
  (.op (some 6) none (.mv (.t 0))), (.op (some 7) none (.nck (.t 6))), (.op (some 8) none (.fad 0 (.t 7))), (.op (some 9) none (.ld (.t 8))), (.op (some 10) none (.lenS (.t 9))),
  (.op (some 11) none (.call 102 [(.t 5), (.t 10)])), (.op (some 2) none (.mv (.t 11)))]) .ret))), [(.t 2)]⟩
def k59 : KFunc := ⟨25, (.seq (.reg [(.op (some 2) none (.mv (.c (.bool false))))]) (.seq (.seq (.reg [(.op (some 3) none (.mv (.c (.int .i64 0))))]) (.block 0 (.loop (.seq (.seq
  (.reg [(.op (some 4) none (.mv (.t 3))), (.op (some 5) none (.mv (.t 0))), (.op (some 6) none (.lenL (.t 5))), (.op (some 7) none (.bin .lss (.t 4) (.t 6)))]) (.cond
  (.t 7) .skip (.exit 0))) (.seq (.block 1 (.seq (.reg [(.op (some 10) none (.mv (.t 0))), (.op (some 11) none (.mv (.t 3))), (.op (some 12) none (.iad 1 (.t 10) (.t 11))),
  (.op (some 13) none (.ld (.t 12))), (.op (some 14) none (.bin .lss (.t 13) (.c (.int .i64 0)))), (.op (some 15) none (.mv (.t 14))), (.op (some 16) (some (15, false)) (.mv
  (.t 0))), (.op (some 17) (some (15, false)) (.mv (.t 3))), (.op (some 18) (some (15, false)) (.iad 1 (.t 16) (.t 17))), (.op (some 19) (some (15, false)) (.ld (.t 18))),
  (.op (some 20) (some (15, false)) (.bin .gtr (.t 19) (.c (.int .i64 11)))), (.op (some 21) none (.pick (.t 15) (.c (.bool true)) (.t 20)))]) (.cond (.t 21) (.seq
  (.reg [(.op (some 2) none (.mv (.c (.bool false))))]) .ret) .skip))) (.reg [(.op (some 8) none (.mv (.t 3))), (.op (some 9) none (.bin .add (.t 8) (.c (.int .i64 1)))),
  (.op (some 3) none (.mv (.t 9)))])))))) (.seq (.reg [(.op (some 22) none (.mv (.t 0))), (.op (some 23) none (.lenL (.t 22))), (.op (some 24) none (.bin .leq (.t 23) (.c
  (.int .i64 256)))), (.op (some 2) none (.mv (.t 24)))]) .ret))), [(.t 2)]⟩
def k60 : KFunc := ⟨13, (.seq (.reg [(.op (some 2) none (.mv (.c (.int .i64 0))))]) (.seq (.reg [(.op (some 3) none (.mv (.c (.int .i64 1))))]) (.seq (.seq
  (.reg [(.op (some 4) none (.mv (.c (.int .i64 0))))]) (.block 0 (.loop (.seq (.seq (.reg [(.op (some 5) none (.mv (.t 4))), (.op (some 6) none (.mv (.t 0))), (.op (some 7) none
  (.bin .lss (.t 5) (.t 6)))]) (.cond (.t 7) .skip (.exit 0))) (.seq (.block 1 (.reg [(.op (some 10) none (.mv (.t 3))), (.op (some 11) none (.bin .mul (.t 10) (.c
  (.int .i64 2)))), (.op (some 3) none (.mv (.t 11)))])) (.reg [(.op (some 8) none (.mv (.t 4))), (.op (some 9) none (.bin .add (.t 8) (.c (.int .i64 1)))), (.op (some 4) none
  (.mv (.t 9)))])))))) (.seq (.reg [(.op (some 12) none (.mv (.t 3))), (.op (some 2) none (.mv (.t 12)))]) .ret)))), [(.t 2)]⟩
def k61 : KFunc := ⟨38, (.seq (.reg [(.op (some 2) none (.mv (.c (.bool false))))]) (.seq (.seq (.reg [(.op (some 8) none (.mv (.t 0))), (.op (some 9) none (.call 92 [(.t 8)])),
  (.op (some 10) none (.un .not (.t 9)))]) (.cond (.t 10) (.seq (.reg [(.op (some 2) none (.mv (.c (.bool false))))]) .ret) .skip)) (.seq (.reg [(.op (some 3) none (.mv (.c
  (.int .i64 2048)))), (.op (some 4) none (.mv (.c (.int .i64 0)))), (.op (some 5) none (.mv (.c (.bool false))))]) (.seq (.seq (.reg [(.op (some 11) none (.mv (.t 0))),
  (.op (some 12) none (.lenL (.t 11))), (.op (some 13) none (.mv (.c (.int .i64 0))))]) (.block 0 (.loop (.seq (.reg [(.op (some 14) none (.bin .lss (.t 13) (.t 12)))]) (.seq
  (.cond (.t 14) .skip (.exit 0)) (.seq (.block 1 (.seq (.reg [(.op (some 15) none (.iad 1 (.t 11) (.t 13))), (.op (some 16) none (.ld (.t 15))), (.op (some 7) none (.mv
  (.t 16)))]) (.seq (.reg [(.op (some 17) none (.mv (.t 7))), (.op (some 18) none (.bin .gtr (.t 17) (.c (.int .i64 0))))]) (.cond (.t 18) (.seq (.reg [(.op (some 19) none (.mv
  (.t 3))), (.op (some 20) none (.mv (.t 7))), (.op (some 21) none (.bin .sub (.c (.int .i64 11)) (.t 20))), (.op (some 22) none (.bin .shl (.c (.int .i64 1)) (.t 21))),
  (.op (some 23) none (.bin .sub (.t 19) (.t 22))), (.op (some 3) none (.mv (.t 23)))]) (.seq (.reg [(.op (some 24) none (.mv (.t 4))), (.op (some 25) none (.bin .add (.t 24) (.c
  (.int .i64 1)))), (.op (some 4) none (.mv (.t 25)))]) (.reg [(.op (some 26) none (.mv (.t 7))), (.op (some 27) none (.bin .eql (.t 26) (.c (.int .i64 1)))), (.op (some 5) none
  (.mv (.t 27)))]))) .skip)))) (.reg [(.op (some 28) none (.bin .add (.t 13) (.c (.int .i64 1)))), (.op (some 13) none (.mv (.t 28)))]))))))) (.seq (.reg [(.op (some 29) none (.mv
  (.t 3))), (.op (some 30) none (.bin .eql (.t 29) (.c (.int .i64 0)))), (.op (some 31) none (.mv (.t 30))), (.op (some 32) (some (31, false)) (.mv (.t 4))),
  (.op (some 33) (some (31, false)) (.bin .eql (.t 32) (.c (.int .i64 1)))), (.op (some 34) (some (31, false)) (.mv (.t 33))), (.op (some 35) (some (34, true)) (.mv (.t 5))),
  (.op (some 36) (some (31, false)) (.pick (.t 34) (.t 35) (.c (.bool false)))), (.op (some 37) none (.pick (.t 31) (.c (.bool true)) (.t 36))), (.op (some 2) none (.mv
  (.t 37)))]) .ret))))), [(.t 2)]⟩
def k70 : KFunc := ⟨39, (.seq (.reg [(.op (some 2) none (.mv (.c (.slice none 0 0)))), (.op (some 3) none (.mv (.c (.bool false))))]) (.seq (.seq (.reg [(.op (some 9) none (.mv
  (.t 0))), (.op (some 10) none (.call 61 [(.t 9)])), (.op (some 11) none (.un .not (.t 10)))]) (.cond (.t 11) (.seq (.reg [(.op (some 2) none (.mv (.c (.slice none 0 0)))),
  (.op (some 3) none (.mv (.c (.bool false))))]) .ret) .skip)) (.seq (.reg [(.op (some 12) none (.mv (.t 0))), (.op (some 13) none (.lenL (.t 12))), (.op (some 14) none
  (.mks 3 [(.int .i64 0)] 8 (.t 13) (.t 13))), (.op (some 4) none (.mv (.t 14)))]) (.seq (.reg [(.op (some 5) none (.mv (.c (.int .i64 0))))]) (.seq (.seq
  (.reg [(.op (some 6) none (.mv (.c (.int .i64 1))))]) (.block 0 (.loop (.seq (.seq (.reg [(.op (some 15) none (.mv (.t 6))), (.op (some 16) none (.bin .leq (.t 15) (.c
  (.int .i64 11))))]) (.cond (.t 16) .skip (.exit 0))) (.seq (.block 1 (.seq (.seq (.reg [(.op (some 19) none (.mv (.t 0))), (.op (some 20) none (.lenL (.t 19))),
  (.op (some 21) none (.mv (.c (.int .i64 0))))]) (.block 2 (.loop (.seq (.reg [(.op (some 22) none (.bin .lss (.t 21) (.t 20)))]) (.seq (.cond (.t 22) .skip (.exit 2)) (.seq
  (.block 3 (.seq (.reg [(.op (some 23) none (.mv (.t 21))), (.op (some 24) none (.iad 1 (.t 19) (.t 21))), (.op (some 25) none (.ld (.t 24))), (.op (some 7) none (.mv (.t 23))),
  (.op (some 8) none (.mv (.t 25)))]) (.seq (.reg [(.op (some 26) none (.mv (.t 8))), (.op (some 27) none (.mv (.t 6))), (.op (some 28) none (.bin .eql (.t 26) (.t 27)))]) (.cond
  (.t 28) (.seq (.reg [(.op (some 29) none (.mv (.t 4))), (.op (some 30) none (.mv (.t 7))), (.op (some 31) none (.mv (.t 5))), (.op (some 32) none (.iad 1 (.t 29) (.t 30))),
  (.op none none (.st (.t 32) (.t 31)))]) (.reg [(.op (some 33) none (.mv (.t 5))), (.op (some 34) none (.bin .add (.t 33) (.c (.int .i64 1)))), (.op (some 5) none (.mv
  (.t 34)))])) .skip)))) (.reg [(.op (some 35) none (.bin .add (.t 21) (.c (.int .i64 1)))), (.op (some 21) none (.mv (.t 35)))]))))))) (.reg [(.op (some 36) none (.mv (.t 5))),
  (.op (some 37) none (.bin .shl (.t 36) (.c (.int .u64 1)))), (.op (some 5) none (.mv (.t 37)))]))) (.reg [(.op (some 17) none (.mv (.t 6))), (.op (some 18) none (.bin .add
  (.t 17) (.c (.int .i64 1)))), (.op (some 6) none (.mv (.t 18)))])))))) (.seq (.reg [(.op (some 38) none (.mv (.t 4))), (.op (some 2) none (.mv (.t 38))), (.op (some 3) none (.mv
  (.c (.bool true))))]) .ret)))))), [(.t 2), (.t 3)]⟩
def k76 : KFunc := ⟨26, (.seq (.reg [(.op (some 2) none (.mv (.c (.slice none 0 0))))]) (.seq (.reg [(.op (some 3) none (.mv (.c (.slice none 0 0))))]) (.seq (.seq
  (.reg [(.op (some 6) none (.mv (.t 0))), (.op (some 7) none (.mv (.t 0))), (.op (some 8) none (.lenL (.t 7))), (.op (some 9) none (.mn (.t 8) [(.c (.int .i64 64))])),
  (.op (some 10) none (.slc 9 1 (.t 6) none (some (.t 9)))), (.op (some 11) none (.lenL (.t 10))), (.op (some 12) none (.mv (.c (.int .i64 0))))]) (.block 0 (.loop (.seq
  (.reg [(.op (some 13) none (.bin .lss (.t 12) (.t 11)))]) (.seq (.cond (.t 13) .skip (.exit 0)) (.seq (.block 1 (.seq (.reg [(.op (some 14) none (.iad 1 (.t 10) (.t 12))),
  (.op (some 15) none (.ld (.t 14))), (.op (some 5) none (.mv (.t 15)))]) (.reg [(.op (some 16) none (.mv (.t 3))), (.op (some 17) none (.mv (.t 5))), (.op (some 18) none (.mv
  (.t 5))), (.op (some 19) none (.lenS (.t 18))), (.op (some 20) none (.mn (.t 19) [(.c (.int .i64 512))])), (.op (some 21) none (.slS (.t 17) none (some (.t 20)))),
  (.op (some 22) none (.bsl 9 1 [(.string (bs []))] [(0, (1, (.t 21)))])), (.op (some 23) none (.app 9 1 16 (.t 16) (.t 22))), (.op (some 3) none (.mv (.t 23)))])))
  (.reg [(.op (some 24) none (.bin .add (.t 12) (.c (.int .i64 1)))), (.op (some 12) none (.mv (.t 24)))]))))))) (.seq (.reg [(.op (some 25) none (.mv (.t 3))), (.op (some 2) none
  (.mv (.t 25)))]) .ret)))), [(.t 2)]⟩
def k77 : KFunc := ⟨40, (.seq (.reg [(.op (some 2) none (.mv (.c (.map none))))]) (.seq (.reg [(.op (some 9) none .mkm), (.op (some 3) none (.mv (.t 9)))]) (.seq (.seq
  (.reg [(.op (some 10) none (.mv (.t 0))), (.op (some 11) none (.lenL (.t 10))), (.op (some 12) none (.mv (.c (.int .i64 0))))]) (.block 0 (.loop (.seq (.reg [(.op (some 13) none
  (.bin .lss (.t 12) (.t 11)))]) (.seq (.cond (.t 13) .skip (.exit 0)) (.seq (.block 1 (.seq (.reg [(.op (some 14) none (.iad 1 (.t 10) (.t 12))), (.op (some 15) none (.ld
  (.t 14))), (.op (some 5) none (.mv (.t 15)))]) (.seq (.reg [(.op (some 16) none (.mv (.t 5))), (.op (some 17) none (.call 110 [(.t 16)])), (.op (some 18) none (.lenL (.t 17))),
  (.op (some 19) none (.mv (.c (.int .i64 0))))]) (.block 2 (.loop (.seq (.reg [(.op (some 20) none (.bin .lss (.t 19) (.t 18)))]) (.seq (.cond (.t 20) .skip (.exit 2)) (.seq
  (.block 3 (.seq (.reg [(.op (some 21) none (.iad 1 (.t 17) (.t 19))), (.op (some 22) none (.ld (.t 21))), (.op (some 7) none (.mv (.t 22)))]) (.reg [(.op (some 23) none (.mv
  (.t 3))), (.op (some 24) none (.mv (.t 7))), (.op (some 25) none (.lkp (.s .str) (.int .i64 0) false (.t 23) (.t 24))), (.op (some 26) none (.bin .add (.t 25) (.c
  (.int .i64 1)))), (.op none none (.mup (.s .str) (.t 23) (.t 24) (.t 26)))]))) (.reg [(.op (some 27) none (.bin .add (.t 19) (.c (.int .i64 1)))), (.op (some 19) none (.mv
  (.t 27)))]))))))))) (.reg [(.op (some 28) none (.bin .add (.t 12) (.c (.int .i64 1)))), (.op (some 12) none (.mv (.t 28)))]))))))) (.mdec 3 2 (.s .str) .sub (.int .i64 1))))),
  [(.t 2)]⟩
def k78 : KFunc := ⟨60, (.seq (.reg [(.op (some 4) none (.mv (.c (.pointer none))))]) (.seq (.reg [(.op (some 11) none (.bsl 112 0 [] [])), (.op (some 12) none (.box 145
  (.t 11))), (.op (some 5) none (.mv (.t 12)))]) (.seq (.seq (.reg [(.op (some 13) none (.mv (.t 0))), (.op (some 14) none (.lenL (.t 13))), (.op (some 15) none (.mv (.c
  (.int .i64 0))))]) (.block 0 (.loop (.seq (.reg [(.op (some 16) none (.bin .lss (.t 15) (.t 14)))]) (.seq (.cond (.t 16) .skip (.exit 0)) (.seq (.block 1 (.seq
  (.reg [(.op (some 17) none (.iad 1 (.t 13) (.t 15))), (.op (some 18) none (.ld (.t 17))), (.op (some 7) none (.mv (.t 18)))]) (.seq (.seq (.reg [(.op (some 19) none (.mv
  (.t 7))), (.op (some 20) none (.lenS (.t 19))), (.op (some 21) none (.bin .lss (.t 20) (.c (.int .i64 6))))]) (.cond (.t 21) (.exit 1) .skip)) (.seq (.reg [(.op (some 22) none
  (.mv (.t 7))), (.op (some 23) none (.lenS (.t 22))), (.op (some 24) none (.mn (.c (.int .i64 16)) [(.t 23)])), (.op (some 8) none (.mv (.t 24)))]) (.seq
  (.reg [(.op (some 9) none (.mv (.c (.int .i64 0))))]) (.block 2 (.loop (.seq (.seq (.reg [(.op (some 25) none (.mv (.t 9))), (.op (some 26) none (.mv (.t 8))),
  (.op (some 27) none (.bin .add (.t 25) (.t 26))), (.op (some 28) none (.mv (.t 7))), (.op (some 29) none (.lenS (.t 28))), (.op (some 30) none (.bin .leq (.t 27) (.t 29)))])
  (.cond (.t 30) .skip (.exit 2))) (.seq (.block 3 (.seq (.reg [(.op (some 33) none (.mv (.t 7))), (.op (some 34) none (.mv (.t 9))), (.op (some 35) none (.mv (.t 9))),
  (.op (some 36) none (.mv (.t 8))), (.op (some 37) none (.bin .add (.t 35) (.t 36))), (.op (some 38) none (.slS (.t 33) (some (.t 34)) (some (.t 37)))), (.op (some 10) none (.mv
  (.t 38)))]) (.reg [(.op (some 39) none (.mv (.t 5))), (.op (some 40) none (.mv (.t 5))), (.op (some 41) none (.nck (.t 40))), (.op (some 42) none (.ld (.t 41))),
  (.op (some 43) none (.mv (.t 10))), (.op (some 44) none (.mv (.t 1))), (.op (some 45) none (.mv (.t 10))), (.op (some 47) none (.mv (.t 5))), (.op (some 48) none (.nck
  (.t 47))), (.op (some 49) none (.ld (.t 48))), (.op (some 50) none (.lenL (.t 49))), (.op (some 46) none (.call 83 [(.t 44), (.t 45)])), (.chk 42 none (.ld (.t 41))),
  (.chk 49 none (.ld (.t 48))), (.op (some 51) none (.build [(.string (bs [])), (.int .i64 0), (.int .i64 0)] [(0, (1, (.t 43))), (1, (1, (.t 46))), (2, (1, (.t 50)))])),
  (.op (some 52) none (.bsl 112 1 [(.string (bs [])), (.int .i64 0), (.int .i64 0)] [(0, (3, (.t 51)))])), (.chk 42 none (.ld (.t 41))), (.op (some 53) none (.app 112 3 32 (.t 42)
  (.t 52))), (.op (some 54) none (.nck (.t 39))), (.op none none (.st (.t 54) (.t 53)))]))) (.reg [(.op (some 31) none (.mv (.t 9))), (.op (some 32) none (.bin .add (.t 31) (.c
  (.int .i64 1)))), (.op (some 9) none (.mv (.t 32)))])))))))))) (.reg [(.op (some 55) none (.bin .add (.t 15) (.c (.int .i64 1)))), (.op (some 15) none (.mv (.t 55)))])))))))
  (.seq (.reg [(.op (some 56) none (.mv (.t 5))), (.op (some 57) none (.mki 109 (.t 56))), (.op (some 58) none (.call 111 [(.t 57)]))]) (.seq (.reg [(.op (some 59) none (.mv
  (.t 5))), (.op (some 4) none (.mv (.t 59)))]) .ret))))), [(.t 4)]⟩
def k79 : KFunc := ⟨41, (.seq (.reg [(.op (some 4) none (.alloc 112 [(.string (bs [])), (.int .i64 0), (.int .i64 0)])), (.op (some 5) none (.mv (.c (.bool false))))]) (.seq
  (.block 0 (.loop (.seq (.seq (.reg [(.op (some 9) none (.mv (.t 0))), (.op (some 10) none (.nck (.t 9))), (.op (some 11) none (.ld (.t 10))), (.op (some 12) none
  (.call 112 [(.t 11)])), (.op (some 13) none (.bin .gtr (.t 12) (.c (.int .i64 0))))]) (.cond (.t 13) .skip (.exit 0))) (.block 1 (.seq (.reg [(.op (some 15) none (.mv (.t 0))),
  (.op (some 16) none (.mki 109 (.t 15))), (.op (some 17) none (.call 113 [(.t 16)])), (.op (some 18) none (.tas 112 (.agg ([(.string (bs [])), (.int .i64 0),
  (.int .i64 0)]).toArray) true (.t 17))), (.op (some 14) none (.mv (.t 18))), (.op (some 19) none (.xt (.t 14) 0)), (.op (some 20) none (.xt (.t 14) 1)), (.op (some 6) none
  (.alloc 112 [(.string (bs [])), (.int .i64 0), (.int .i64 0)])), (.op none none (.stn 3 (.t 6) (.t 19))), (.op (some 7) none (.mv (.t 20)))]) (.seq (.seq
  (.reg [(.op (some 21) none (.mv (.t 1))), (.op (some 22) none (.fad 0 (.t 6))), (.op (some 23) none (.ld (.t 22))), (.op (some 24) none (.call 83 [(.t 21), (.t 23)])),
  (.op (some 8) none (.mv (.t 24)))]) (.seq (.reg [(.op (some 25) none (.mv (.t 8))), (.op (some 26) none (.fad 1 (.t 6))), (.op (some 27) none (.ld (.t 26))), (.op (some 28) none
  (.bin .neq (.t 25) (.t 27)))]) (.cond (.t 28) (.seq (.reg [(.op (some 29) none (.mv (.t 8))), (.op (some 30) none (.fad 1 (.t 6))), (.op none none (.st (.t 30) (.t 29)))]) (.seq
  (.reg [(.op (some 31) none (.mv (.t 0))), (.op (some 32) none (.mki 109 (.t 31))), (.op (some 33) none (.ldn 3 (.t 6))), (.op (some 34) none (.mki 112 (.t 33))),
  (.op (some 35) none (.call 114 [(.t 32), (.t 34)]))]) (.exit 1))) .skip))) (.seq (.reg [(.op (some 36) none (.ldn 3 (.t 6))), (.op (some 37) none (.fad 1 (.t 6))),
  (.op (some 38) none (.ld (.t 37))), (.op (some 39) none (.bin .gtr (.t 38) (.c (.int .i64 0)))), (.op none none (.stn 3 (.t 4) (.t 36))), (.chk 38 none (.ld (.t 37))),
  (.op (some 5) none (.mv (.t 39)))]) .ret))))))) (.seq (.reg [(.op (some 40) none (.build [(.string (bs [])), (.int .i64 0), (.int .i64 0)] [])), (.op none none (.stn 3 (.t 4)
  (.t 40))), (.op (some 5) none (.mv (.c (.bool false))))]) .ret))), [(.cn 4 3), (.t 5)]⟩
def k80 : KFunc := ⟨16, (.seq (.reg [(.op (some 6) none (.mv (.t 1))), (.op (some 7) none (.call 110 [(.t 6)])), (.op (some 8) none (.lenL (.t 7))), (.op (some 9) none (.mv (.c
  (.int .i64 0))))]) (.block 0 (.loop (.seq (.reg [(.op (some 10) none (.bin .lss (.t 9) (.t 8)))]) (.seq (.cond (.t 10) .skip (.exit 0)) (.seq (.block 1 (.seq
  (.reg [(.op (some 11) none (.iad 1 (.t 7) (.t 9))), (.op (some 12) none (.ld (.t 11))), (.op (some 5) none (.mv (.t 12)))]) (.reg [(.op (some 13) none (.mv (.t 0))),
  (.op (some 14) none (.mv (.t 5))), (.op none none (.del (.s .str) (.t 13) (.t 14)))]))) (.reg [(.op (some 15) none (.bin .add (.t 9) (.c (.int .i64 1)))), (.op (some 9) none
  (.mv (.t 15)))]))))))), []⟩
def k81 : KFunc := ⟨28, (.seq (.reg [(.op (some 4) none (.mv (.t 0))), (.op (some 5) none (.lenL (.t 4))), (.op (some 6) none (.bin .sub (.t 5) (.c (.int .i64 1)))),
  (.op (some 2) none (.mv (.c (.int .i64 0)))), (.op (some 3) none (.mv (.t 6)))]) (.block 0 (.loop (.seq (.seq (.reg [(.op (some 7) none (.mv (.t 2))), (.op (some 8) none (.mv
  (.t 3))), (.op (some 9) none (.bin .lss (.t 7) (.t 8)))]) (.cond (.t 9) .skip (.exit 0))) (.seq (.block 1 (.reg [(.op (some 14) none (.mv (.t 0))), (.op (some 15) none (.mv
  (.t 2))), (.op (some 16) none (.mv (.t 0))), (.op (some 17) none (.mv (.t 3))), (.op (some 18) none (.mv (.t 0))), (.op (some 19) none (.mv (.t 3))), (.op (some 20) none (.iad 1
  (.t 18) (.t 19))), (.op (some 21) none (.ld (.t 20))), (.op (some 22) none (.mv (.t 0))), (.op (some 23) none (.mv (.t 2))), (.op (some 24) none (.iad 1 (.t 22) (.t 23))),
  (.op (some 25) none (.ld (.t 24))), (.op (some 26) none (.iad 1 (.t 14) (.t 15))), (.op none none (.st (.t 26) (.t 21))), (.op (some 27) none (.iad 1 (.t 16) (.t 17))),
  (.op none none (.st (.t 27) (.t 25)))])) (.reg [(.op (some 10) none (.mv (.t 2))), (.op (some 11) none (.bin .add (.t 10) (.c (.int .i64 1)))), (.op (some 12) none (.mv
  (.t 3))), (.op (some 13) none (.bin .sub (.t 12) (.c (.int .i64 1)))), (.op (some 2) none (.mv (.t 11))), (.op (some 3) none (.mv (.t 13)))])))))), []⟩
def k82 : KFunc := ⟨75, (.seq (.reg [(.op (some 4) none (.mv (.c (.string (bs [])))))]) (.seq (.seq (.reg [(.op (some 11) none (.mv (.t 0))), (.op (some 12) none (.lenL
  (.t 11)))]) (.block 0 (.seq (.reg [(.op (some 14) none (.bin .eql (.t 12) (.c (.int .i64 0)))), (.op (some 13) none (.mv (.t 14)))]) (.cond (.t 13) (.seq
  (.reg [(.op (some 4) none (.mv (.c (.string (bs [])))))]) .ret) (.seq (.reg [(.op (some 16) none (.bin .eql (.t 12) (.c (.int .i64 1)))), (.op (some 15) none (.mv (.t 16)))])
  (.cond (.t 15) (.seq (.reg [(.op (some 17) none (.mv (.t 0))), (.op (some 18) none (.iad 1 (.t 17) (.c (.int .i64 0)))), (.op (some 19) none (.ld (.t 18))), (.op (some 4) none
  (.mv (.t 19)))]) .ret) .skip)))))) (.seq (.reg [(.op (some 5) none (.mv (.c (.int .i64 0))))]) (.seq (.seq (.reg [(.op (some 20) none (.mv (.t 1))), (.op (some 21) none (.lenS
  (.t 20))), (.op (some 22) none (.bin .gtr (.t 21) (.c (.int .i64 0))))]) (.cond (.t 22) (.seq (.seq (.reg [(.op (some 23) none (.mv (.t 1))), (.op (some 24) none (.lenS
  (.t 23))), (.op (some 25) none (.mv (.t 0))), (.op (some 26) none (.lenL (.t 25))), (.op (some 27) none (.bin .sub (.t 26) (.c (.int .i64 1)))), (.op (some 28) none (.bin .quo
  (.c (.int .i64 9223372036854775807)) (.t 27))), (.op (some 29) none (.bin .geq (.t 24) (.t 28)))]) (.cond (.t 29) (.reg [(.op (some 30) none (.mki 9 (.c (.string (bs [115, 116,
  114, 105, 110, 103, 115, 58, 32, 74, 111, 105, 110, 32, 111, 117, 116, 112, 117, 116, 32, 108, 101, 110, 103, 116, 104, 32, 111, 118, 101, 114, 102, 108, 111, 119]))))),
  (.op none none .nev)]) .skip)) (.reg [(.op (some 31) none (.mv (.t 5))), (.op (some 32) none (.mv (.t 1))), (.op (some 33) none (.lenS (.t 32))), (.op (some 34) none (.mv
  (.t 0))), (.op (some 35) none (.lenL (.t 34))), (.op (some 36) none (.bin .sub (.t 35) (.c (.int .i64 1)))), (.op (some 37) none (.bin .mul (.t 33) (.t 36))),
  (.op (some 38) none (.bin .add (.t 31) (.t 37))), (.op (some 5) none (.mv (.t 38)))])) .skip)) (.seq (.seq (.reg [(.op (some 39) none (.mv (.t 0))), (.op (some 40) none (.lenL
  (.t 39))), (.op (some 41) none (.mv (.c (.int .i64 0))))]) (.block 1 (.loop (.seq (.reg [(.op (some 42) none (.bin .lss (.t 41) (.t 40)))]) (.seq (.cond (.t 42) .skip (.exit 1))
  (.seq (.block 2 (.seq (.reg [(.op (some 43) none (.iad 1 (.t 39) (.t 41))), (.op (some 44) none (.ld (.t 43))), (.op (some 7) none (.mv (.t 44)))]) (.seq (.seq
  (.reg [(.op (some 45) none (.mv (.t 7))), (.op (some 46) none (.lenS (.t 45))), (.op (some 47) none (.mv (.t 5))), (.op (some 48) none (.bin .sub (.c
  (.int .i64 9223372036854775807)) (.t 47))), (.op (some 49) none (.bin .gtr (.t 46) (.t 48)))]) (.cond (.t 49) (.reg [(.op (some 50) none (.mki 9 (.c (.string (bs [115, 116, 114,
  105, 110, 103, 115, 58, 32, 74, 111, 105, 110, 32, 111, 117, 116, 112, 117, 116, 32, 108, 101, 110, 103, 116, 104, 32, 111, 118, 101, 114, 102, 108, 111, 119]))))),
  (.op none none .nev)]) .skip)) (.reg [(.op (some 51) none (.mv (.t 5))), (.op (some 52) none (.mv (.t 7))), (.op (some 53) none (.lenS (.t 52))), (.op (some 54) none (.bin .add
  (.t 51) (.t 53))), (.op (some 5) none (.mv (.t 54)))])))) (.reg [(.op (some 55) none (.bin .add (.t 41) (.c (.int .i64 1)))), (.op (some 41) none (.mv (.t 55)))]))))))) (.seq
  (.reg [(.op (some 8) none (.alloc 151 [(.pointer none), (.slice none 0 0)]))]) (.seq (.reg [(.op (some 56) none (.mv (.t 5))), (.op (some 57) none (.call 115 [(.t 8),
  (.t 56)]))]) (.seq (.reg [(.op (some 58) none (.mv (.t 0))), (.op (some 59) none (.iad 1 (.t 58) (.c (.int .i64 0)))), (.op (some 60) none (.ld (.t 59))), (.op (some 61) none
  (.call 116 [(.t 8), (.t 60)]))]) (.seq (.seq (.reg [(.op (some 62) none (.mv (.t 0))), (.op (some 63) none (.slc 9 1 (.t 62) (some (.c (.int .i64 1))) none)),
  (.op (some 64) none (.lenL (.t 63))), (.op (some 65) none (.mv (.c (.int .i64 0))))]) (.block 3 (.loop (.seq (.reg [(.op (some 66) none (.bin .lss (.t 65) (.t 64)))]) (.seq
  (.cond (.t 66) .skip (.exit 3)) (.seq (.block 4 (.seq (.reg [(.op (some 67) none (.iad 1 (.t 63) (.t 65))), (.op (some 68) none (.ld (.t 67))), (.op (some 10) none (.mv
  (.t 68)))]) (.seq (.reg [(.op (some 69) none (.mv (.t 1))), (.op (some 70) none (.call 116 [(.t 8), (.t 69)]))]) (.reg [(.op (some 71) none (.mv (.t 10))), (.op (some 72) none
  (.call 116 [(.t 8), (.t 71)]))])))) (.reg [(.op (some 73) none (.bin .add (.t 65) (.c (.int .i64 1)))), (.op (some 65) none (.mv (.t 73)))]))))))) (.seq
  (.reg [(.op (some 74) none (.call 117 [(.t 8)])), (.op (some 4) none (.mv (.t 74)))]) .ret)))))))))), [(.t 4)]⟩
def k83 : KFunc := ⟨22, (.seq (.reg [(.op (some 4) none (.mv (.c (.int .i64 0))))]) (.seq (.reg [(.op (some 5) none (.mv (.c (.int .i64 0))))]) (.seq (.seq
  (.reg [(.op (some 8) none (.mv (.t 1))), (.op (some 9) none (.call 110 [(.t 8)])), (.op (some 10) none (.lenL (.t 9))), (.op (some 11) none (.mv (.c (.int .i64 0))))]) (.block 0
  (.loop (.seq (.reg [(.op (some 12) none (.bin .lss (.t 11) (.t 10)))]) (.seq (.cond (.t 12) .skip (.exit 0)) (.seq (.block 1 (.seq (.reg [(.op (some 13) none (.iad 1 (.t 9)
  (.t 11))), (.op (some 14) none (.ld (.t 13))), (.op (some 7) none (.mv (.t 14)))]) (.reg [(.op (some 15) none (.mv (.t 5))), (.op (some 16) none (.mv (.t 0))),
  (.op (some 17) none (.mv (.t 7))), (.op (some 18) none (.lkp (.s .str) (.int .i64 0) false (.t 16) (.t 17))), (.op (some 19) none (.bin .add (.t 15) (.t 18))),
  (.op (some 5) none (.mv (.t 19)))]))) (.reg [(.op (some 20) none (.bin .add (.t 11) (.c (.int .i64 1)))), (.op (some 11) none (.mv (.t 20)))]))))))) (.seq
  (.reg [(.op (some 21) none (.mv (.t 5))), (.op (some 4) none (.mv (.t 21)))]) .ret)))), [(.t 4)]⟩
def k84 : KFunc := ⟨24, (.seq (.reg [(.op (some 4) none (.mv (.c (.bool false))))]) (.seq (.seq (.reg [(.op (some 5) none (.mv (.c (.int .i64 0))))]) (.block 0 (.loop (.seq (.seq
  (.reg [(.op (some 6) none (.mv (.t 5))), (.op (some 7) none (.mv (.t 1))), (.op (some 8) none (.lenS (.t 7))), (.op (some 9) none (.bin .add (.t 6) (.t 8))), (.op (some 10) none
  (.mv (.t 0))), (.op (some 11) none (.lenS (.t 10))), (.op (some 12) none (.bin .leq (.t 9) (.t 11)))]) (.cond (.t 12) .skip (.exit 0))) (.seq (.block 1 (.seq
  (.reg [(.op (some 15) none (.mv (.t 0))), (.op (some 16) none (.mv (.t 5))), (.op (some 17) none (.mv (.t 5))), (.op (some 18) none (.mv (.t 1))), (.op (some 19) none (.lenS
  (.t 18))), (.op (some 20) none (.bin .add (.t 17) (.t 19))), (.op (some 21) none (.slS (.t 15) (some (.t 16)) (some (.t 20)))), (.op (some 22) none (.mv (.t 1))),
  (.op (some 23) none (.bin .eql (.t 21) (.t 22)))]) (.cond (.t 23) (.seq (.reg [(.op (some 4) none (.mv (.c (.bool true))))]) .ret) .skip))) (.reg [(.op (some 13) none (.mv
  (.t 5))), (.op (some 14) none (.bin .add (.t 13) (.c (.int .i64 1)))), (.op (some 5) none (.mv (.t 14)))])))))) (.seq (.reg [(.op (some 4) none (.mv (.c
  (.bool false))))]) .ret))), [(.t 4)]⟩
def k85 : KFunc := ⟨18, (.seq (.reg [(.op (some 4) none (.mv (.c (.bool false))))]) (.seq (.seq (.reg [(.op (some 5) none (.mv (.c (.int .i64 0))))]) (.block 0 (.loop (.seq (.seq
  (.reg [(.op (some 6) none (.mv (.t 5))), (.op (some 7) none (.mv (.t 0))), (.op (some 8) none (.lenL (.t 7))), (.op (some 9) none (.bin .lss (.t 6) (.t 8)))]) (.cond
  (.t 9) .skip (.exit 0))) (.seq (.block 1 (.seq (.reg [(.op (some 12) none (.mv (.t 0))), (.op (some 13) none (.mv (.t 5))), (.op (some 14) none (.iad 1 (.t 12) (.t 13))),
  (.op (some 15) none (.ld (.t 14))), (.op (some 16) none (.mv (.t 1))), (.op (some 17) none (.call 84 [(.t 15), (.t 16)]))]) (.cond (.t 17) (.seq (.reg [(.op (some 4) none (.mv
  (.c (.bool true))))]) .ret) .skip))) (.reg [(.op (some 10) none (.mv (.t 5))), (.op (some 11) none (.bin .add (.t 10) (.c (.int .i64 1)))), (.op (some 5) none (.mv
  (.t 11)))])))))) (.seq (.reg [(.op (some 4) none (.mv (.c (.bool false))))]) .ret))), [(.t 4)]⟩
def k86 : KFunc := ⟨25, (.seq (.reg [(.op (some 4) none (.mv (.c (.int .i64 0))))]) (.seq (.reg [(.op (some 5) none (.mv (.c (.int .i64 0))))]) (.seq (.seq
  (.reg [(.op (some 6) none (.mv (.c (.int .i64 0))))]) (.block 0 (.loop (.seq (.seq (.reg [(.op (some 7) none (.mv (.t 6))), (.op (some 8) none (.mv (.t 0))), (.op (some 9) none
  (.lenL (.t 8))), (.op (some 10) none (.bin .lss (.t 7) (.t 9)))]) (.cond (.t 10) .skip (.exit 0))) (.seq (.block 1 (.seq (.reg [(.op (some 13) none (.mv (.t 0))),
  (.op (some 14) none (.mv (.t 6))), (.op (some 15) none (.iad 1 (.t 13) (.t 14))), (.op (some 16) none (.ld (.t 15))), (.op (some 17) none (.mv (.t 1))), (.op (some 18) none
  (.call 84 [(.t 16), (.t 17)]))]) (.cond (.t 18) (.reg [(.op (some 19) none (.mv (.t 5))), (.op (some 20) none (.bin .add (.t 19) (.c (.int .i64 1)))), (.op (some 5) none (.mv
  (.t 20)))]) .skip))) (.reg [(.op (some 11) none (.mv (.t 6))), (.op (some 12) none (.bin .add (.t 11) (.c (.int .i64 1)))), (.op (some 6) none (.mv (.t 12)))])))))) (.seq (.seq
  (.reg [(.op (some 21) none (.mv (.t 5))), (.op (some 22) none (.bin .eql (.t 21) (.c (.int .i64 0))))]) (.cond (.t 22) (.seq (.reg [(.op (some 4) none (.mv (.c
  (.int .i64 0))))]) .ret) .skip)) (.seq (.reg [(.op (some 23) none (.mv (.t 5))), (.op (some 24) none (.bin .sub (.t 23) (.c (.int .i64 1)))), (.op (some 4) none (.mv
  (.t 24)))]) .ret))))), [(.t 4)]⟩
def k92 : KFunc := ⟨21, (.seq (.reg [(.op (some 2) none (.mv (.c (.bool false))))]) (.seq (.seq (.reg [(.op (some 5) none (.mv (.t 0))), (.op (some 6) none (.lenL (.t 5))),
  (.op (some 7) none (.mv (.c (.int .i64 0))))]) (.block 0 (.loop (.seq (.reg [(.op (some 8) none (.bin .lss (.t 7) (.t 6)))]) (.seq (.cond (.t 8) .skip (.exit 0)) (.seq (.block 1
  (.seq (.reg [(.op (some 9) none (.iad 1 (.t 5) (.t 7))), (.op (some 10) none (.ld (.t 9))), (.op (some 4) none (.mv (.t 10)))]) (.seq (.reg [(.op (some 11) none (.mv (.t 4))),
  (.op (some 12) none (.bin .lss (.t 11) (.c (.int .i64 0)))), (.op (some 13) none (.mv (.t 12))), (.op (some 14) (some (13, false)) (.mv (.t 4))), (.op (some 15) (some (13,
  false)) (.bin .gtr (.t 14) (.c (.int .i64 11)))), (.op (some 16) none (.pick (.t 13) (.c (.bool true)) (.t 15)))]) (.cond (.t 16) (.seq (.reg [(.op (some 2) none (.mv (.c
  (.bool false))))]) .ret) .skip)))) (.reg [(.op (some 17) none (.bin .add (.t 7) (.c (.int .i64 1)))), (.op (some 7) none (.mv (.t 17)))]))))))) (.seq (.reg [(.op (some 18) none
  (.mv (.t 0))), (.op (some 19) none (.lenL (.t 18))), (.op (some 20) none (.bin .leq (.t 19) (.c (.int .i64 256)))), (.op (some 2) none (.mv (.t 20)))]) .ret))), [(.t 2)]⟩
def k99 : KFunc := ⟨28, (.seq (.reg [(.op (some 4) none (.mv (.c (.int .u64 0))))]) (.seq (.reg [(.op (some 5) none (.mv (.c (.int .u64 0))))]) (.seq (.seq
  (.reg [(.op (some 8) none (.mv (.t 0))), (.op (some 9) none (.mv (.t 1))), (.op (some 10) none (.call 105 [(.t 9)])), (.op (some 11) none (.call 102 [(.t 8), (.t 10)])),
  (.op (some 12) none (.s2b 5 (.t 11))), (.op (some 13) none (.lenL (.t 12))), (.op (some 14) none (.mv (.c (.int .i64 0))))]) (.block 0 (.loop (.seq (.reg [(.op (some 15) none
  (.bin .lss (.t 14) (.t 13)))]) (.seq (.cond (.t 15) .skip (.exit 0)) (.seq (.block 1 (.seq (.reg [(.op (some 16) none (.mv (.t 14))), (.op (some 17) none (.iad 1 (.t 12)
  (.t 14))), (.op (some 18) none (.ld (.t 17))), (.op (some 6) none (.mv (.t 16))), (.op (some 7) none (.mv (.t 18)))]) (.reg [(.op (some 19) none (.mv (.t 5))),
  (.op (some 20) none (.mv (.t 7))), (.op (some 21) none (.cvt .u64 (.t 20))), (.op (some 22) none (.mv (.t 6))), (.op (some 23) none (.bin .mul (.c (.int .i64 8)) (.t 22))),
  (.op (some 24) none (.bin .shl (.t 21) (.t 23))), (.op (some 25) none (.bin .or (.t 19) (.t 24))), (.op (some 5) none (.mv (.t 25)))]))) (.reg [(.op (some 26) none (.bin .add
  (.t 14) (.c (.int .i64 1)))), (.op (some 14) none (.mv (.t 26)))]))))))) (.seq (.reg [(.op (some 27) none (.mv (.t 5))), (.op (some 4) none (.mv (.t 27)))]) .ret)))), [(.t 4)]⟩
def k101 : KFunc := ⟨11, (.seq (.reg [(.op (some 2) none (.mv (.c (.bool false))))]) (.seq (.reg [(.op (some 3) none (.mv (.t 0))), (.op (some 4) none (.eqv .ptr false (.t 3) (.c
  (.pointer none)))), (.op (some 5) none (.mv (.t 4))), (.op (some 6) (some (5, false)) (.mv (.t 0))), (.op (some 7) (some (5, false)) (.nck (.t 6))), (.op (some 8) (some (5,
  false)) (.fad 1 (.t 7))), (.op (some 9) (some (5, false)) (.ld (.t 8))), (.op (some 10) none (.pick (.t 5) (.c (.bool true)) (.t 9))), (.op (some 2) none (.mv
  (.t 10)))]) .ret)), [(.t 2)]⟩
def k102 : KFunc := ⟨37, (.seq (.reg [(.op (some 4) none (.mv (.c (.string (bs [])))))]) (.seq (.reg [(.op (some 6) none (.mv (.t 1))), (.op (some 7) none (.mx (.t 6) [(.c
  (.int .i64 0))])), (.op (some 1) none (.mv (.t 7)))]) (.seq (.seq (.reg [(.op (some 8) none (.mv (.t 0))), (.op (some 9) none (.call 101 [(.t 8)])), (.op (some 10) none (.mv
  (.t 9))), (.op (some 11) (some (10, false)) (.mv (.t 0))), (.op (some 12) (some (10, false)) (.nck (.t 11))), (.op (some 13) (some (10, false)) (.fad 0 (.t 12))),
  (.op (some 14) (some (10, false)) (.ld (.t 13))), (.op (some 15) (some (10, false)) (.lenS (.t 14))), (.op (some 16) (some (10, false)) (.mv (.t 1))), (.op (some 17) (some (10,
  false)) (.bin .lss (.t 15) (.t 16))), (.op (some 18) none (.pick (.t 10) (.c (.bool true)) (.t 17)))]) (.cond (.t 18) (.seq (.reg [(.op (some 19) none (.mv (.t 0))),
  (.op (some 20) none (.call 126 [(.t 19)]))]) (.seq (.reg [(.op (some 4) none (.mv (.c (.string (bs [])))))]) .ret)) .skip)) (.seq (.reg [(.op (some 21) none (.mv (.t 0))),
  (.op (some 22) none (.nck (.t 21))), (.op (some 23) none (.fad 0 (.t 22))), (.op (some 24) none (.ld (.t 23))), (.op (some 25) none (.mv (.t 1))), (.op (some 26) none (.slS
  (.t 24) none (some (.t 25)))), (.op (some 5) none (.mv (.t 26)))]) (.seq (.reg [(.op (some 27) none (.mv (.t 0))), (.op (some 28) none (.mv (.t 0))), (.op (some 29) none (.nck
  (.t 28))), (.op (some 30) none (.fad 0 (.t 29))), (.op (some 31) none (.ld (.t 30))), (.op (some 32) none (.mv (.t 1))), (.op (some 33) none (.slS (.t 31) (some (.t 32)) none)),
  (.op (some 34) none (.nck (.t 27))), (.op (some 35) none (.fad 0 (.t 34))), (.op none none (.st (.t 35) (.t 33)))]) (.seq (.reg [(.op (some 36) none (.mv (.t 5))),
  (.op (some 4) none (.mv (.t 36)))]) .ret)))))), [(.t 4)]⟩
def k105 : KFunc := ⟨6, (.seq (.reg [(.op (some 2) none (.mv (.c (.int .i64 0))))]) (.seq (.reg [(.op (some 3) none (.mv (.t 0))), (.op (some 4) none (.mx (.t 3) [(.c
  (.int .i64 0))])), (.op (some 5) none (.mn (.t 4) [(.c (.int .i64 8))])), (.op (some 2) none (.mv (.t 5)))]) .ret)), [(.t 2)]⟩
def k110 : KFunc := ⟨31, (.seq (.reg [(.op (some 2) none (.mv (.c (.slice none 0 0))))]) (.seq (.reg [(.op (some 3) none (.mv (.c (.slice none 0 0))))]) (.seq
  (.reg [(.op (some 7) none .mkm), (.op (some 4) none (.mv (.t 7)))]) (.seq (.seq (.reg [(.op (some 5) none (.mv (.c (.int .i64 0))))]) (.block 0 (.loop (.seq (.seq
  (.reg [(.op (some 8) none (.mv (.t 5))), (.op (some 9) none (.bin .add (.t 8) (.c (.int .i64 6)))), (.op (some 10) none (.mv (.t 0))), (.op (some 11) none (.lenS (.t 10))),
  (.op (some 12) none (.bin .leq (.t 9) (.t 11)))]) (.cond (.t 12) .skip (.exit 0))) (.seq (.block 1 (.seq (.reg [(.op (some 15) none (.mv (.t 0))), (.op (some 16) none (.mv
  (.t 5))), (.op (some 17) none (.mv (.t 5))), (.op (some 18) none (.bin .add (.t 17) (.c (.int .i64 6)))), (.op (some 19) none (.slS (.t 15) (some (.t 16)) (some (.t 18)))),
  (.op (some 6) none (.mv (.t 19)))]) (.seq (.reg [(.op (some 20) none (.mv (.t 4))), (.op (some 21) none (.mv (.t 6))), (.op (some 22) none (.lkp (.s .str) (.bool false) false
  (.t 20) (.t 21))), (.op (some 23) none (.un .not (.t 22)))]) (.cond (.t 23) (.seq (.reg [(.op (some 24) none (.mv (.t 4))), (.op (some 25) none (.mv (.t 6))), (.op none none
  (.mup (.s .str) (.t 24) (.t 25) (.c (.bool true))))]) (.reg [(.op (some 26) none (.mv (.t 3))), (.op (some 27) none (.mv (.t 6))), (.op (some 28) none
  (.bsl 9 1 [(.string (bs []))] [(0, (1, (.t 27)))])), (.op (some 29) none (.app 9 1 16 (.t 26) (.t 28))), (.op (some 3) none (.mv (.t 29)))])) .skip))))
  (.reg [(.op (some 13) none (.mv (.t 5))), (.op (some 14) none (.bin .add (.t 13) (.c (.int .i64 1)))), (.op (some 5) none (.mv (.t 14)))])))))) (.seq (.reg [(.op (some 30) none
  (.mv (.t 3))), (.op (some 2) none (.mv (.t 30)))]) .ret))))), [(.t 2)]⟩
def k111 : KFunc := ⟨17, (.seq (.reg [(.op (some 4) none (.mv (.t 0))), (.op (some 5) none (.inv (.t 4) "Len" [])), (.op (some 2) none (.mv (.t 5)))]) (.seq
  (.reg [(.op (some 6) none (.mv (.t 2))), (.op (some 7) none (.bin .quo (.t 6) (.c (.int .i64 2)))), (.op (some 8) none (.bin .sub (.t 7) (.c (.int .i64 1)))), (.op (some 3) none
  (.mv (.t 8)))]) (.block 0 (.loop (.seq (.seq (.reg [(.op (some 9) none (.mv (.t 3))), (.op (some 10) none (.bin .geq (.t 9) (.c (.int .i64 0))))]) (.cond (.t 10) .skip
  (.exit 0))) (.seq (.block 1 (.reg [(.op (some 13) none (.mv (.t 0))), (.op (some 14) none (.mv (.t 3))), (.op (some 15) none (.mv (.t 2))), (.op (some 16) none
  (.call 131 [(.t 13), (.t 14), (.t 15)]))])) (.reg [(.op (some 11) none (.mv (.t 3))), (.op (some 12) none (.bin .sub (.t 11) (.c (.int .i64 1)))), (.op (some 3) none (.mv
  (.t 12)))]))))))), []⟩
def k112 : KFunc := ⟨5, (.seq (.reg [(.op (some 2) none (.mv (.c (.int .i64 0))))]) (.seq (.reg [(.op (some 3) none (.mv (.t 0))), (.op (some 4) none (.lenL (.t 3))),
  (.op (some 2) none (.mv (.t 4)))]) .ret)), [(.t 2)]⟩
def k113 : KFunc := ⟨15, (.seq (.reg [(.op (some 2) none (.mv (.c .nilIface)))]) (.seq (.reg [(.op (some 4) none (.mv (.t 0))), (.op (some 5) none (.inv (.t 4) "Len" [])),
  (.op (some 6) none (.bin .sub (.t 5) (.c (.int .i64 1)))), (.op (some 3) none (.mv (.t 6)))]) (.seq (.reg [(.op (some 7) none (.mv (.t 0))), (.op (some 8) none (.mv (.t 3))),
  (.op (some 9) none (.inv (.t 7) "Swap" [(.c (.int .i64 0)), (.t 8)]))]) (.seq (.reg [(.op (some 10) none (.mv (.t 0))), (.op (some 11) none (.mv (.t 3))), (.op (some 12) none
  (.call 131 [(.t 10), (.c (.int .i64 0)), (.t 11)]))]) (.seq (.reg [(.op (some 13) none (.mv (.t 0))), (.op (some 14) none (.inv (.t 13) "Pop" [])), (.op (some 2) none (.mv
  (.t 14)))]) .ret))))), [(.t 2)]⟩
def k114 : KFunc := ⟨12, (.seq (.reg [(.op (some 4) none (.mv (.t 0))), (.op (some 5) none (.mv (.t 1))), (.op (some 6) none (.inv (.t 4) "Push" [(.t 5)]))])
  (.reg [(.op (some 7) none (.mv (.t 0))), (.op (some 8) none (.mv (.t 0))), (.op (some 9) none (.inv (.t 8) "Len" [])), (.op (some 10) none (.bin .sub (.t 9) (.c
  (.int .i64 1)))), (.op (some 11) none (.call 132 [(.t 7), (.t 10)]))])), []⟩
def k115 : KFunc := ⟨25, (.seq (.reg [(.op (some 4) none (.mv (.t 0))), (.op (some 5) none (.call 133 [(.t 4)]))]) (.seq (.seq (.reg [(.op (some 6) none (.mv (.t 1))),
  (.op (some 7) none (.bin .lss (.t 6) (.c (.int .i64 0))))]) (.cond (.t 7) (.reg [(.op (some 8) none (.mki 9 (.c (.string (bs [115, 116, 114, 105, 110, 103, 115, 46, 66, 117,
  105, 108, 100, 101, 114, 46, 71, 114, 111, 119, 58, 32, 110, 101, 103, 97, 116, 105, 118, 101, 32, 99, 111, 117, 110, 116]))))), (.op none none .nev)]) .skip)) (.seq
  (.reg [(.op (some 9) none (.mv (.t 0))), (.op (some 10) none (.nck (.t 9))), (.op (some 11) none (.fad 1 (.t 10))), (.op (some 12) none (.ld (.t 11))), (.op (some 14) none (.mv
  (.t 0))), (.op (some 15) none (.nck (.t 14))), (.op (some 16) none (.fad 1 (.t 15))), (.op (some 17) none (.ld (.t 16))), (.op (some 18) none (.lenL (.t 17))),
  (.op (some 20) none (.mv (.t 1))), (.op (some 13) none .nev), (.chk 17 none (.ld (.t 16))), (.op (some 19) none (.bin .sub (.t 13) (.t 18))), (.op (some 21) none (.bin .lss
  (.t 19) (.t 20)))]) (.cond (.t 21) (.reg [(.op (some 22) none (.mv (.t 0))), (.op (some 23) none (.mv (.t 1))), (.op (some 24) none (.call 134 [(.t 22), (.t 23)]))]) .skip)))),
  []⟩
def k116 : KFunc := ⟨19, (.seq (.reg [(.op (some 4) none (.mv (.c (.int .i64 0)))), (.op (some 5) none (.mv (.c .nilIface)))]) (.seq (.reg [(.op (some 6) none (.mv (.t 0))),
  (.op (some 7) none (.call 133 [(.t 6)]))]) (.seq (.reg [(.op (some 8) none (.mv (.t 0))), (.op (some 9) none (.mv (.t 0))), (.op (some 10) none (.nck (.t 9))),
  (.op (some 11) none (.fad 1 (.t 10))), (.op (some 12) none (.ld (.t 11))), (.op (some 13) none (.mv (.t 1))), (.op (some 14) none (.appS 5 (.t 12) (.t 13))), (.op (some 15) none
  (.nck (.t 8))), (.op (some 16) none (.fad 1 (.t 15))), (.op none none (.st (.t 16) (.t 14)))]) (.seq (.reg [(.op (some 17) none (.mv (.t 1))), (.op (some 18) none (.lenS
  (.t 17))), (.op (some 4) none (.mv (.t 18))), (.op (some 5) none (.mv (.c .nilIface)))]) .ret)))), [(.t 4), (.t 5)]⟩
def k117 : KFunc := ⟨14, (.seq (.reg [(.op (some 2) none (.mv (.c (.string (bs [])))))]) (.seq (.reg [(.op (some 3) none (.mv (.t 0))), (.op (some 4) none (.nck (.t 3))),
  (.op (some 5) none (.fad 1 (.t 4))), (.op (some 6) none (.ld (.t 5))), (.op (some 8) none (.mv (.t 0))), (.op (some 9) none (.nck (.t 8))), (.op (some 10) none (.fad 1 (.t 9))),
  (.op (some 11) none (.ld (.t 10))), (.op (some 12) none (.lenL (.t 11))), (.op (some 7) none .nev), (.chk 11 none (.ld (.t 10))), (.op (some 13) none .nev), (.op (some 2) none
  (.mv (.t 13)))]) .ret)), [(.t 2)]⟩
def k119 : KFunc := ⟨5, (.seq (.reg [(.op (some 2) none (.mv (.c (.int .i64 0))))]) (.seq (.reg [(.op (some 3) none (.mv (.t 0))), (.op (some 4) none (.lenL (.t 3))),
  (.op (some 2) none (.mv (.t 4)))]) .ret)), [(.t 2)]⟩
def k124 : KFunc := ⟨20, (.seq (.reg [(.op (some 4) none (.mv (.c (.int .i64 0))))]) (.seq (.reg [(.op (some 7) none (.mv (.t 0))), (.op (some 8) none (.call 137 [(.t 7)])),
  (.op (some 5) none (.mv (.t 8)))]) (.seq (.reg [(.op (some 9) none (.mv (.t 1))), (.op (some 10) none (.call 137 [(.t 9)])), (.op (some 6) none (.mv (.t 10)))]) (.seq (.seq
  (.reg [(.op (some 11) none (.mv (.t 5)))]) (.cond (.t 11) (.seq (.seq (.reg [(.op (some 12) none (.mv (.t 6)))]) (.cond (.t 12) (.seq (.reg [(.op (some 4) none (.mv (.c
  (.int .i64 0))))]) .ret) .skip)) (.seq (.reg [(.op (some 4) none (.mv (.c (.int .i64 (-1)))))]) .ret)) .skip)) (.seq (.seq (.reg [(.op (some 13) none (.mv (.t 6)))]) (.cond
  (.t 13) (.seq (.reg [(.op (some 4) none (.mv (.c (.int .i64 1))))]) .ret) .skip)) (.seq (.seq (.reg [(.op (some 14) none (.mv (.t 0))), (.op (some 15) none (.mv (.t 1))),
  (.op (some 16) none (.bin .lss (.t 14) (.t 15)))]) (.cond (.t 16) (.seq (.reg [(.op (some 4) none (.mv (.c (.int .i64 (-1)))))]) .ret) .skip)) (.seq (.seq
  (.reg [(.op (some 17) none (.mv (.t 0))), (.op (some 18) none (.mv (.t 1))), (.op (some 19) none (.bin .gtr (.t 17) (.t 18)))]) (.cond (.t 19) (.seq (.reg [(.op (some 4) none
  (.mv (.c (.int .i64 1))))]) .ret) .skip)) (.seq (.reg [(.op (some 4) none (.mv (.c (.int .i64 0))))]) .ret)))))))), [(.t 4)]⟩
def k126 : KFunc := ⟨10, (.seq (.reg [(.op (some 2) none (.mv (.t 0))), (.op (some 3) none (.eqv .ptr true (.t 2) (.c (.pointer none))))]) (.cond (.t 3) (.reg [(.op (some 4) none
  (.mv (.t 0))), (.op (some 5) none (.mv (.t 0))), (.op (some 6) none (.nck (.t 4))), (.op (some 7) none (.fad 0 (.t 6))), (.op none none (.st (.t 7) (.c (.string (bs []))))),
  (.op (some 8) none (.nck (.t 5))), (.op (some 9) none (.fad 1 (.t 8))), (.op none none (.st (.t 9) (.c (.bool true))))]) .skip)), []⟩
def k131 : KFunc := ⟨48, (.seq (.reg [(.op (some 6) none (.mv (.c (.bool false))))]) (.seq (.reg [(.op (some 11) none (.mv (.t 1))), (.op (some 7) none (.mv (.t 11)))]) (.seq
  (.block 0 (.loop (.block 1 (.seq (.reg [(.op (some 12) none (.mv (.t 7))), (.op (some 13) none (.bin .mul (.c (.int .i64 2)) (.t 12))), (.op (some 14) none (.bin .add (.t 13)
  (.c (.int .i64 1)))), (.op (some 8) none (.mv (.t 14)))]) (.seq (.seq (.reg [(.op (some 15) none (.mv (.t 8))), (.op (some 16) none (.mv (.t 2))), (.op (some 17) none (.bin .geq
  (.t 15) (.t 16))), (.op (some 18) none (.mv (.t 17))), (.op (some 19) (some (18, false)) (.mv (.t 8))), (.op (some 20) (some (18, false)) (.bin .lss (.t 19) (.c
  (.int .i64 0)))), (.op (some 21) none (.pick (.t 18) (.c (.bool true)) (.t 20)))]) (.cond (.t 21) (.exit 0) .skip)) (.seq (.reg [(.op (some 22) none (.mv (.t 8))),
  (.op (some 9) none (.mv (.t 22)))]) (.seq (.seq (.reg [(.op (some 23) none (.mv (.t 8))), (.op (some 24) none (.bin .add (.t 23) (.c (.int .i64 1)))), (.op (some 10) none (.mv
  (.t 24)))]) (.seq (.reg [(.op (some 25) none (.mv (.t 10))), (.op (some 26) none (.mv (.t 2))), (.op (some 27) none (.bin .lss (.t 25) (.t 26))), (.op (some 28) none (.mv
  (.t 27))), (.op (some 29) (some (28, true)) (.mv (.t 0))), (.op (some 30) (some (28, true)) (.mv (.t 10))), (.op (some 31) (some (28, true)) (.mv (.t 8))),
  (.op (some 32) (some (28, true)) (.inv (.t 29) "Less" [(.t 30), (.t 31)])), (.op (some 33) none (.pick (.t 28) (.t 32) (.c (.bool false))))]) (.cond (.t 33)
  (.reg [(.op (some 34) none (.mv (.t 10))), (.op (some 9) none (.mv (.t 34)))]) .skip))) (.seq (.seq (.reg [(.op (some 35) none (.mv (.t 0))), (.op (some 36) none (.mv (.t 9))),
  (.op (some 37) none (.mv (.t 7))), (.op (some 38) none (.inv (.t 35) "Less" [(.t 36), (.t 37)])), (.op (some 39) none (.un .not (.t 38)))]) (.cond (.t 39) (.exit 0) .skip))
  (.seq (.reg [(.op (some 40) none (.mv (.t 0))), (.op (some 41) none (.mv (.t 7))), (.op (some 42) none (.mv (.t 9))), (.op (some 43) none (.inv (.t 40) "Swap" [(.t 41),
  (.t 42)]))]) (.reg [(.op (some 44) none (.mv (.t 9))), (.op (some 7) none (.mv (.t 44)))])))))))))) (.seq (.reg [(.op (some 45) none (.mv (.t 7))), (.op (some 46) none (.mv
  (.t 1))), (.op (some 47) none (.bin .gtr (.t 45) (.t 46))), (.op (some 6) none (.mv (.t 47)))]) .ret)))), [(.t 6)]⟩
def k132 : KFunc := ⟨23, (.block 0 (.loop (.block 1 (.seq (.reg [(.op (some 5) none (.mv (.t 1))), (.op (some 6) none (.bin .sub (.t 5) (.c (.int .i64 1)))), (.op (some 7) none
  (.bin .quo (.t 6) (.c (.int .i64 2)))), (.op (some 4) none (.mv (.t 7)))]) (.seq (.seq (.reg [(.op (some 8) none (.mv (.t 4))), (.op (some 9) none (.mv (.t 1))),
  (.op (some 10) none (.bin .eql (.t 8) (.t 9))), (.op (some 11) none (.mv (.t 10))), (.op (some 12) (some (11, false)) (.mv (.t 0))), (.op (some 13) (some (11, false)) (.mv
  (.t 1))), (.op (some 14) (some (11, false)) (.mv (.t 4))), (.op (some 15) (some (11, false)) (.inv (.t 12) "Less" [(.t 13), (.t 14)])), (.op (some 16) (some (11, false))
  (.un .not (.t 15))), (.op (some 17) none (.pick (.t 11) (.c (.bool true)) (.t 16)))]) (.cond (.t 17) (.exit 0) .skip)) (.seq (.reg [(.op (some 18) none (.mv (.t 0))),
  (.op (some 19) none (.mv (.t 4))), (.op (some 20) none (.mv (.t 1))), (.op (some 21) none (.inv (.t 18) "Swap" [(.t 19), (.t 20)]))]) (.reg [(.op (some 22) none (.mv (.t 4))),
  (.op (some 1) none (.mv (.t 22)))]))))))), []⟩
def k133 : KFunc := ⟨20, (.seq (.reg [(.op (some 2) none (.mv (.t 0))), (.op (some 3) none (.nck (.t 2))), (.op (some 4) none (.fad 0 (.t 3))), (.op (some 5) none (.ld (.t 4))),
  (.op (some 6) none (.eqv .ptr false (.t 5) (.c (.pointer none))))]) (.cond (.t 6) (.reg [(.op (some 7) none (.mv (.t 0))), (.op (some 8) none (.mv (.t 0))),
  (.op (some 9) none .nev), (.op (some 10) none .nev), (.op (some 11) none .nev), (.op (some 12) none (.nck (.t 7))), (.op (some 13) none (.fad 0 (.t 12))), (.op none none (.st
  (.t 13) (.t 11)))]) (.seq (.reg [(.op (some 14) none (.mv (.t 0))), (.op (some 15) none (.nck (.t 14))), (.op (some 16) none (.fad 0 (.t 15))), (.op (some 17) none (.ld
  (.t 16))), (.op (some 18) none (.mv (.t 0))), (.op (some 19) none (.eqv .ptr true (.t 17) (.t 18)))]) (.cond (.t 19) .nev .skip)))), []⟩
def k134 : KFunc := ⟨30, (.seq (.reg [(.op (some 5) none (.mv (.t 0))), (.op (some 6) none (.nck (.t 5))), (.op (some 7) none (.fad 1 (.t 6))), (.op (some 8) none (.ld (.t 7))),
  (.op (some 11) none (.mv (.t 1))), (.op (some 14) none (.mv (.t 0))), (.op (some 15) none (.nck (.t 14))), (.op (some 16) none (.fad 1 (.t 15))), (.op (some 17) none (.ld
  (.t 16))), (.op (some 18) none (.lenL (.t 17))), (.op (some 9) none .nev), (.chk 17 none (.ld (.t 16))), (.op (some 10) none (.bin .mul (.c (.int .i64 2)) (.t 9))),
  (.op (some 12) none (.bin .add (.t 10) (.t 11))), (.op (some 13) none .nev), (.chk 17 none (.ld (.t 16))), (.op (some 19) none (.slc 5 1 (.t 13) none (some (.t 18)))),
  (.op (some 4) none (.mv (.t 19)))]) (.seq (.reg [(.op (some 20) none (.mv (.t 4))), (.op (some 21) none (.mv (.t 0))), (.op (some 22) none (.nck (.t 21))), (.op (some 23) none
  (.fad 1 (.t 22))), (.op (some 24) none (.ld (.t 23))), (.op (some 25) none (.cpy 5 1 (.t 20) (.t 24)))]) (.reg [(.op (some 26) none (.mv (.t 0))), (.op (some 27) none (.mv
  (.t 4))), (.op (some 28) none (.nck (.t 26))), (.op (some 29) none (.fad 1 (.t 28))), (.op none none (.st (.t 29) (.t 27)))]))), []⟩
def k137 : KFunc := ⟨6, (.seq (.reg [(.op (some 2) none (.mv (.c (.bool false))))]) (.seq (.reg [(.op (some 3) none (.mv (.t 0))), (.op (some 4) none (.mv (.t 0))),
  (.op (some 5) none (.bin .neq (.t 3) (.t 4))), (.op (some 2) none (.mv (.t 5)))]) .ret)), [(.t 2)]⟩
def k163 : KFunc := ⟨32, (.seq (.reg [(.op (some 6) none (.mv (.c (.bool false))))]) (.seq (.reg [(.op (some 7) none (.mv (.t 0))), (.op (some 8) none (.mv (.t 2))),
  (.op (some 9) none (.iad 3 (.t 7) (.t 8))), (.op (some 10) none (.fad 1 (.t 9))), (.op (some 11) none (.ld (.t 10))), (.op (some 12) none (.mv (.t 0))), (.op (some 13) none (.mv
  (.t 1))), (.op (some 14) none (.iad 3 (.t 12) (.t 13))), (.op (some 15) none (.fad 1 (.t 14))), (.op (some 16) none (.ld (.t 15))), (.op (some 18) none (.mv (.t 0))),
  (.op (some 19) none (.mv (.t 1))), (.op (some 20) none (.iad 3 (.t 18) (.t 19))), (.op (some 21) none (.fad 2 (.t 20))), (.op (some 22) none (.ld (.t 21))), (.op (some 23) none
  (.mv (.t 0))), (.op (some 24) none (.mv (.t 2))), (.op (some 25) none (.iad 3 (.t 23) (.t 24))), (.op (some 26) none (.fad 2 (.t 25))), (.op (some 27) none (.ld (.t 26))),
  (.op (some 17) none (.call 124 [(.t 11), (.t 16)])), (.chk 22 none (.ld (.t 21))), (.chk 27 none (.ld (.t 26))), (.op (some 28) none (.call 124 [(.t 22), (.t 27)])),
  (.op (some 29) none (.bsl 3 2 [(.int .i64 0), (.int .i64 0)] [(0, (1, (.t 17))), (1, (1, (.t 28)))])), (.op (some 30) none (.call 167 [(.t 29)])), (.op (some 31) none (.bin .lss
  (.t 30) (.c (.int .i64 0)))), (.op (some 6) none (.mv (.t 31)))]) .ret)), [(.t 6)]⟩
def k164 : KFunc := ⟨25, (.seq (.reg [(.op (some 2) none (.mv (.c .nilIface)))]) (.seq (.reg [(.op (some 5) none (.mv (.t 0))), (.op (some 6) none (.nck (.t 5))),
  (.op (some 7) none (.ld (.t 6))), (.op (some 8) none (.lenL (.t 7))), (.op (some 9) none (.bin .sub (.t 8) (.c (.int .i64 1)))), (.op (some 3) none (.mv (.t 9)))]) (.seq
  (.reg [(.op (some 10) none (.mv (.t 0))), (.op (some 11) none (.nck (.t 10))), (.op (some 12) none (.ld (.t 11))), (.op (some 13) none (.mv (.t 3))), (.op (some 14) none (.iad 3
  (.t 12) (.t 13))), (.op (some 15) none (.ldn 3 (.t 14))), (.op (some 4) none (.alloc 112 [(.string (bs [])), (.int .i64 0), (.int .i64 0)])), (.op none none (.stn 3 (.t 4)
  (.t 15)))]) (.seq (.reg [(.op (some 16) none (.mv (.t 0))), (.op (some 17) none (.mv (.t 0))), (.op (some 18) none (.nck (.t 17))), (.op (some 19) none (.ld (.t 18))),
  (.op (some 20) none (.mv (.t 3))), (.op (some 21) none (.slc 112 3 (.t 19) none (some (.t 20)))), (.op (some 22) none (.nck (.t 16))), (.op none none (.st (.t 22) (.t 21)))])
  (.seq (.reg [(.op (some 23) none (.ldn 3 (.t 4))), (.op (some 24) none (.mki 112 (.t 23))), (.op (some 2) none (.mv (.t 24)))]) .ret))))), [(.t 2)]⟩
def k165 : KFunc := ⟨20, (.seq (.reg [(.op (some 7) none (.mv (.t 1))), (.op (some 8) none (.tas 112 (.agg ([(.string (bs [])), (.int .i64 0), (.int .i64 0)]).toArray) true
  (.t 7))), (.op (some 6) none (.mv (.t 8))), (.op (some 9) none (.xt (.t 6) 0)), (.op (some 10) none (.xt (.t 6) 1)), (.op (some 4) none (.alloc 112 [(.string (bs [])),
  (.int .i64 0), (.int .i64 0)])), (.op none none (.stn 3 (.t 4) (.t 9))), (.op (some 5) none (.mv (.t 10)))]) (.seq (.reg [(.op (some 11) none (.mv (.t 5)))]) (.cond (.t 11)
  (.reg [(.op (some 12) none (.mv (.t 0))), (.op (some 13) none (.mv (.t 0))), (.op (some 14) none (.nck (.t 13))), (.op (some 15) none (.ld (.t 14))), (.op (some 16) none (.ldn 3
  (.t 4))), (.op (some 17) none (.bsl 112 1 [(.string (bs [])), (.int .i64 0), (.int .i64 0)] [(0, (3, (.t 16)))])), (.chk 15 none (.ld (.t 14))), (.op (some 18) none
  (.app 112 3 32 (.t 15) (.t 17))), (.op (some 19) none (.nck (.t 12))), (.op none none (.st (.t 19) (.t 18)))]) .skip))), []⟩
def k166 : KFunc := ⟨20, (.reg [(.op (some 6) none (.mv (.t 0))), (.op (some 7) none (.mv (.t 1))), (.op (some 8) none (.mv (.t 0))), (.op (some 9) none (.mv (.t 2))),
  (.op (some 10) none (.mv (.t 0))), (.op (some 11) none (.mv (.t 2))), (.op (some 12) none (.iad 3 (.t 10) (.t 11))), (.op (some 13) none (.ldn 3 (.t 12))), (.op (some 14) none
  (.mv (.t 0))), (.op (some 15) none (.mv (.t 1))), (.op (some 16) none (.iad 3 (.t 14) (.t 15))), (.op (some 17) none (.ldn 3 (.t 16))), (.op (some 18) none (.iad 3 (.t 6)
  (.t 7))), (.op none none (.stn 3 (.t 18) (.t 13))), (.op (some 19) none (.iad 3 (.t 8) (.t 9))), (.op none none (.stn 3 (.t 19) (.t 17)))]), []⟩
def k167 : KFunc := ⟨18, (.seq (.reg [(.op (some 2) none (.mv (.c (.int .i64 0))))]) (.seq (.reg [(.op (some 3) none (.mv (.c (.int .i64 0))))]) (.seq (.seq
  (.reg [(.op (some 6) none (.mv (.t 0))), (.op (some 7) none (.lenL (.t 6))), (.op (some 8) none (.mv (.c (.int .i64 0))))]) (.block 0 (.loop (.seq (.reg [(.op (some 9) none
  (.bin .lss (.t 8) (.t 7)))]) (.seq (.cond (.t 9) .skip (.exit 0)) (.seq (.block 1 (.seq (.reg [(.op (some 10) none (.iad 1 (.t 6) (.t 8))), (.op (some 11) none (.ld (.t 10))),
  (.op (some 5) none (.mv (.t 11)))]) (.seq (.reg [(.op (some 12) none (.mv (.t 5))), (.op (some 13) none (.mv (.t 3))), (.op (some 14) none (.bin .neq (.t 12) (.t 13)))]) (.cond
  (.t 14) (.seq (.reg [(.op (some 15) none (.mv (.t 5))), (.op (some 2) none (.mv (.t 15)))]) .ret) .skip)))) (.reg [(.op (some 16) none (.bin .add (.t 8) (.c (.int .i64 1)))),
  (.op (some 8) none (.mv (.t 16)))]))))))) (.seq (.reg [(.op (some 17) none (.mv (.t 3))), (.op (some 2) none (.mv (.t 17)))]) .ret)))), [(.t 2)]⟩
def k170 : KFunc := ⟨40, (.seq (.reg [(.op (some 6) none (.mv (.c (.bool false))))]) (.seq (.reg [(.op (some 7) none (.mv (.t 0))), (.op (some 8) none (.mv (.t 1))),
  (.op (some 9) none (.iad 1 (.t 7) (.t 8))), (.op (some 10) none (.ld (.t 9))), (.op (some 11) none (.nck (.t 10))), (.op (some 12) none (.fad 0 (.t 11))), (.op (some 13) none
  (.ld (.t 12))), (.op (some 14) none (.mv (.t 0))), (.op (some 15) none (.mv (.t 2))), (.op (some 16) none (.iad 1 (.t 14) (.t 15))), (.op (some 17) none (.ld (.t 16))),
  (.op (some 18) none (.nck (.t 17))), (.op (some 19) none (.fad 0 (.t 18))), (.op (some 20) none (.ld (.t 19))), (.op (some 22) none (.mv (.t 0))), (.op (some 23) none (.mv
  (.t 1))), (.op (some 24) none (.iad 1 (.t 22) (.t 23))), (.op (some 25) none (.ld (.t 24))), (.op (some 26) none (.nck (.t 25))), (.op (some 27) none (.fad 1 (.t 26))),
  (.op (some 28) none (.ld (.t 27))), (.op (some 29) none (.mv (.t 0))), (.op (some 30) none (.mv (.t 2))), (.op (some 31) none (.iad 1 (.t 29) (.t 30))), (.op (some 32) none (.ld
  (.t 31))), (.op (some 33) none (.nck (.t 32))), (.op (some 34) none (.fad 1 (.t 33))), (.op (some 35) none (.ld (.t 34))), (.op (some 21) none (.call 124 [(.t 13), (.t 20)])),
  (.chk 25 none (.ld (.t 24))), (.chk 28 none (.ld (.t 27))), (.chk 32 none (.ld (.t 31))), (.chk 35 none (.ld (.t 34))), (.op (some 36) none (.call 124 [(.t 28), (.t 35)])),
  (.op (some 37) none (.bsl 3 2 [(.int .i64 0), (.int .i64 0)] [(0, (1, (.t 21))), (1, (1, (.t 36)))])), (.op (some 38) none (.call 167 [(.t 37)])), (.op (some 39) none (.bin .lss
  (.t 38) (.c (.int .i64 0)))), (.op (some 6) none (.mv (.t 39)))]) .ret)), [(.t 6)]⟩
def k171 : KFunc := ⟨25, (.seq (.reg [(.op (some 2) none (.mv (.c .nilIface)))]) (.seq (.reg [(.op (some 5) none (.mv (.t 0))), (.op (some 6) none (.nck (.t 5))),
  (.op (some 7) none (.ld (.t 6))), (.op (some 8) none (.lenL (.t 7))), (.op (some 9) none (.bin .sub (.t 8) (.c (.int .i64 1)))), (.op (some 3) none (.mv (.t 9)))]) (.seq
  (.reg [(.op (some 10) none (.mv (.t 0))), (.op (some 11) none (.nck (.t 10))), (.op (some 12) none (.ld (.t 11))), (.op (some 13) none (.mv (.t 3))), (.op (some 14) none (.iad 1
  (.t 12) (.t 13))), (.op (some 15) none (.ld (.t 14))), (.op (some 4) none (.mv (.t 15)))]) (.seq (.reg [(.op (some 16) none (.mv (.t 0))), (.op (some 17) none (.mv (.t 0))),
  (.op (some 18) none (.nck (.t 17))), (.op (some 19) none (.ld (.t 18))), (.op (some 20) none (.mv (.t 3))), (.op (some 21) none (.slc 120 1 (.t 19) none (some (.t 20)))),
  (.op (some 22) none (.nck (.t 16))), (.op none none (.st (.t 22) (.t 21)))]) (.seq (.reg [(.op (some 23) none (.mv (.t 4))), (.op (some 24) none (.mki 120 (.t 23))),
  (.op (some 2) none (.mv (.t 24)))]) .ret))))), [(.t 2)]⟩
def k172 : KFunc := ⟨20, (.seq (.reg [(.op (some 7) none (.mv (.t 1))), (.op (some 8) none (.tas 120 (.pointer none) true (.t 7))), (.op (some 6) none (.mv (.t 8))),
  (.op (some 9) none (.xt (.t 6) 0)), (.op (some 10) none (.xt (.t 6) 1)), (.op (some 4) none (.mv (.t 9))), (.op (some 5) none (.mv (.t 10)))]) (.seq (.reg [(.op (some 11) none
  (.mv (.t 5)))]) (.cond (.t 11) (.reg [(.op (some 12) none (.mv (.t 0))), (.op (some 13) none (.mv (.t 0))), (.op (some 14) none (.nck (.t 13))), (.op (some 15) none (.ld
  (.t 14))), (.op (some 16) none (.mv (.t 4))), (.op (some 17) none (.bsl 120 1 [(.pointer none)] [(0, (1, (.t 16)))])), (.op (some 18) none (.app 120 1 8 (.t 15) (.t 17))),
  (.op (some 19) none (.nck (.t 12))), (.op none none (.st (.t 19) (.t 18)))]) .skip))), []⟩
def k173 : KFunc := ⟨20, (.reg [(.op (some 6) none (.mv (.t 0))), (.op (some 7) none (.mv (.t 1))), (.op (some 8) none (.mv (.t 0))), (.op (some 9) none (.mv (.t 2))),
  (.op (some 10) none (.mv (.t 0))), (.op (some 11) none (.mv (.t 2))), (.op (some 12) none (.iad 1 (.t 10) (.t 11))), (.op (some 13) none (.ld (.t 12))), (.op (some 14) none (.mv
  (.t 0))), (.op (some 15) none (.mv (.t 1))), (.op (some 16) none (.iad 1 (.t 14) (.t 15))), (.op (some 17) none (.ld (.t 16))), (.op (some 18) none (.iad 1 (.t 6) (.t 7))),
  (.op none none (.st (.t 18) (.t 13))), (.op (some 19) none (.iad 1 (.t 8) (.t 9))), (.op none none (.st (.t 19) (.t 17)))]), []⟩
theorem c7 : okFunc Go.Proofs.Try.prog 7 = true ∧ ∃ fn, Go.Proofs.Try.prog.funcs[7]? = some fn ∧ cFunc Go.Proofs.Try.prog fn = some k7 := ⟨by kernel_rfl, Go.Proofs.Try.f7, Go.Proofs.Try.func7, by kernel_rfl⟩
theorem c8 : okFunc Go.Proofs.Try.prog 8 = true ∧ ∃ fn, Go.Proofs.Try.prog.funcs[8]? = some fn ∧ cFunc Go.Proofs.Try.prog fn = some k8 := ⟨by kernel_rfl, Go.Proofs.Try.f8, Go.Proofs.Try.func8, by kernel_rfl⟩
theorem c9 : okFunc Go.Proofs.Try.prog 9 = true ∧ ∃ fn, Go.Proofs.Try.prog.funcs[9]? = some fn ∧ cFunc Go.Proofs.Try.prog fn = some k9 := ⟨by kernel_rfl, Go.Proofs.Try.f9, Go.Proofs.Try.func9, by kernel_rfl⟩
theorem c22 : okFunc Go.Proofs.Try.prog 22 = true ∧ ∃ fn, Go.Proofs.Try.prog.funcs[22]? = some fn ∧ cFunc Go.Proofs.Try.prog fn = some k22 := ⟨by kernel_rfl, Go.Proofs.Try.f22, Go.Proofs.Try.func22, by kernel_rfl⟩
theorem c28 : okFunc Go.Proofs.Try.prog 28 = true ∧ ∃ fn, Go.Proofs.Try.prog.funcs[28]? = some fn ∧ cFunc Go.Proofs.Try.prog fn = some k28 := ⟨by kernel_rfl, Go.Proofs.Try.f28, Go.Proofs.Try.func28, by kernel_rfl⟩
theorem c29 : okFunc Go.Proofs.Try.prog 29 = true ∧ ∃ fn, Go.Proofs.Try.prog.funcs[29]? = some fn ∧ cFunc Go.Proofs.Try.prog fn = some k29 := ⟨by kernel_rfl, Go.Proofs.Try.f29, Go.Proofs.Try.func29, by kernel_rfl⟩
theorem c30 : okFunc Go.Proofs.Try.prog 30 = true ∧ ∃ fn, Go.Proofs.Try.prog.funcs[30]? = some fn ∧ cFunc Go.Proofs.Try.prog fn = some k30 := ⟨by kernel_rfl, Go.Proofs.Try.f30, Go.Proofs.Try.func30, by kernel_rfl⟩
theorem c31 : okFunc Go.Proofs.Try.prog 31 = true ∧ ∃ fn, Go.Proofs.Try.prog.funcs[31]? = some fn ∧ cFunc Go.Proofs.Try.prog fn = some k31 := ⟨by kernel_rfl, Go.Proofs.Try.f31, Go.Proofs.Try.func31, by kernel_rfl⟩
theorem c32 : okFunc Go.Proofs.Try.prog 32 = true ∧ ∃ fn, Go.Proofs.Try.prog.funcs[32]? = some fn ∧ cFunc Go.Proofs.Try.prog fn = some k32 := ⟨by kernel_rfl, Go.Proofs.Try.f32, Go.Proofs.Try.func32, by kernel_rfl⟩
theorem c33 : okFunc Go.Proofs.Try.prog 33 = true ∧ ∃ fn, Go.Proofs.Try.prog.funcs[33]? = some fn ∧ cFunc Go.Proofs.Try.prog fn = some k33 := ⟨by kernel_rfl, Go.Proofs.Try.f33, Go.Proofs.Try.func33, by kernel_rfl⟩
theorem c34 : okFunc Go.Proofs.Try.prog 34 = true ∧ ∃ fn, Go.Proofs.Try.prog.funcs[34]? = some fn ∧ cFunc Go.Proofs.Try.prog fn = some k34 := ⟨by kernel_rfl, Go.Proofs.Try.f34, Go.Proofs.Try.func34, by kernel_rfl⟩
theorem c35 : okFunc Go.Proofs.Try.prog 35 = true ∧ ∃ fn, Go.Proofs.Try.prog.funcs[35]? = some fn ∧ cFunc Go.Proofs.Try.prog fn = some k35 := ⟨by kernel_rfl, Go.Proofs.Try.f35, Go.Proofs.Try.func35, by kernel_rfl⟩
theorem c36 : okFunc Go.Proofs.Try.prog 36 = true ∧ ∃ fn, Go.Proofs.Try.prog.funcs[36]? = some fn ∧ cFunc Go.Proofs.Try.prog fn = some k36 := ⟨by kernel_rfl, Go.Proofs.Try.f36, Go.Proofs.Try.func36, by kernel_rfl⟩
theorem c49 : okFunc Go.Proofs.Try.prog 49 = true ∧ ∃ fn, Go.Proofs.Try.prog.funcs[49]? = some fn ∧ cFunc Go.Proofs.Try.prog fn = some k49 := ⟨by kernel_rfl, Go.Proofs.Try.f49, Go.Proofs.Try.func49, by kernel_rfl⟩
theorem c57 : okFunc Go.Proofs.Try.prog 57 = true ∧ ∃ fn, Go.Proofs.Try.prog.funcs[57]? = some fn ∧ cFunc Go.Proofs.Try.prog fn = some k57 := ⟨by kernel_rfl, Go.Proofs.Try.f57, Go.Proofs.Try.func57, by kernel_rfl⟩
theorem c59 : okFunc Go.Proofs.Try.prog 59 = true ∧ ∃ fn, Go.Proofs.Try.prog.funcs[59]? = some fn ∧ cFunc Go.Proofs.Try.prog fn = some k59 := ⟨by kernel_rfl, Go.Proofs.Try.f59, Go.Proofs.Try.func59, by kernel_rfl⟩
theorem c60 : okFunc Go.Proofs.Try.prog 60 = true ∧ ∃ fn, Go.Proofs.Try.prog.funcs[60]? = some fn ∧ cFunc Go.Proofs.Try.prog fn = some k60 := ⟨by kernel_rfl, Go.Proofs.Try.f60, Go.Proofs.Try.func60, by kernel_rfl⟩
theorem c61 : okFunc Go.Proofs.Try.prog 61 = true ∧ ∃ fn, Go.Proofs.Try.prog.funcs[61]? = some fn ∧ cFunc Go.Proofs.Try.prog fn = some k61 := ⟨by kernel_rfl, Go.Proofs.Try.f61, Go.Proofs.Try.func61, by kernel_rfl⟩
theorem c70 : okFunc Go.Proofs.Try.prog 70 = true ∧ ∃ fn, Go.Proofs.Try.prog.funcs[70]? = some fn ∧ cFunc Go.Proofs.Try.prog fn = some k70 := ⟨by kernel_rfl, Go.Proofs.Try.f70, Go.Proofs.Try.func70, by kernel_rfl⟩
theorem c76 : okFunc Go.Proofs.Try.prog 76 = true ∧ ∃ fn, Go.Proofs.Try.prog.funcs[76]? = some fn ∧ cFunc Go.Proofs.Try.prog fn = some k76 := ⟨by kernel_rfl, Go.Proofs.Try.f76, Go.Proofs.Try.func76, by kernel_rfl⟩
theorem c77 : okFunc Go.Proofs.Try.prog 77 = true ∧ ∃ fn, Go.Proofs.Try.prog.funcs[77]? = some fn ∧ cFunc Go.Proofs.Try.prog fn = some k77 := ⟨by kernel_rfl, Go.Proofs.Try.f77, Go.Proofs.Try.func77, by kernel_rfl⟩
theorem c78 : okFunc Go.Proofs.Try.prog 78 = true ∧ ∃ fn, Go.Proofs.Try.prog.funcs[78]? = some fn ∧ cFunc Go.Proofs.Try.prog fn = some k78 := ⟨by kernel_rfl, Go.Proofs.Try.f78, Go.Proofs.Try.func78, by kernel_rfl⟩
theorem c79 : okFunc Go.Proofs.Try.prog 79 = true ∧ ∃ fn, Go.Proofs.Try.prog.funcs[79]? = some fn ∧ cFunc Go.Proofs.Try.prog fn = some k79 := ⟨by kernel_rfl, Go.Proofs.Try.f79, Go.Proofs.Try.func79, by kernel_rfl⟩
theorem c80 : okFunc Go.Proofs.Try.prog 80 = true ∧ ∃ fn, Go.Proofs.Try.prog.funcs[80]? = some fn ∧ cFunc Go.Proofs.Try.prog fn = some k80 := ⟨by kernel_rfl, Go.Proofs.Try.f80, Go.Proofs.Try.func80, by kernel_rfl⟩
theorem c81 : okFunc Go.Proofs.Try.prog 81 = true ∧ ∃ fn, Go.Proofs.Try.prog.funcs[81]? = some fn ∧ cFunc Go.Proofs.Try.prog fn = some k81 := ⟨by kernel_rfl, Go.Proofs.Try.f81, Go.Proofs.Try.func81, by kernel_rfl⟩
theorem c82 : okFunc Go.Proofs.Try.prog 82 = true ∧ ∃ fn, Go.Proofs.Try.prog.funcs[82]? = some fn ∧ cFunc Go.Proofs.Try.prog fn = some k82 := ⟨by kernel_rfl, Go.Proofs.Try.f82, Go.Proofs.Try.func82, by kernel_rfl⟩
theorem c83 : okFunc Go.Proofs.Try.prog 83 = true ∧ ∃ fn, Go.Proofs.Try.prog.funcs[83]? = some fn ∧ cFunc Go.Proofs.Try.prog fn = some k83 := ⟨by kernel_rfl, Go.Proofs.Try.f83, Go.Proofs.Try.func83, by kernel_rfl⟩
theorem c84 : okFunc Go.Proofs.Try.prog 84 = true ∧ ∃ fn, Go.Proofs.Try.prog.funcs[84]? = some fn ∧ cFunc Go.Proofs.Try.prog fn = some k84 := ⟨by kernel_rfl, Go.Proofs.Try.f84, Go.Proofs.Try.func84, by kernel_rfl⟩
theorem c85 : okFunc Go.Proofs.Try.prog 85 = true ∧ ∃ fn, Go.Proofs.Try.prog.funcs[85]? = some fn ∧ cFunc Go.Proofs.Try.prog fn = some k85 := ⟨by kernel_rfl, Go.Proofs.Try.f85, Go.Proofs.Try.func85, by kernel_rfl⟩
theorem c86 : okFunc Go.Proofs.Try.prog 86 = true ∧ ∃ fn, Go.Proofs.Try.prog.funcs[86]? = some fn ∧ cFunc Go.Proofs.Try.prog fn = some k86 := ⟨by kernel_rfl, Go.Proofs.Try.f86, Go.Proofs.Try.func86, by kernel_rfl⟩
theorem c92 : okFunc Go.Proofs.Try.prog 92 = true ∧ ∃ fn, Go.Proofs.Try.prog.funcs[92]? = some fn ∧ cFunc Go.Proofs.Try.prog fn = some k92 := ⟨by kernel_rfl, Go.Proofs.Try.f92, Go.Proofs.Try.func92, by kernel_rfl⟩
theorem c99 : okFunc Go.Proofs.Try.prog 99 = true ∧ ∃ fn, Go.Proofs.Try.prog.funcs[99]? = some fn ∧ cFunc Go.Proofs.Try.prog fn = some k99 := ⟨by kernel_rfl, Go.Proofs.Try.f99, Go.Proofs.Try.func99, by kernel_rfl⟩
theorem c101 : okFunc Go.Proofs.Try.prog 101 = true ∧ ∃ fn, Go.Proofs.Try.prog.funcs[101]? = some fn ∧ cFunc Go.Proofs.Try.prog fn = some k101 := ⟨by kernel_rfl, Go.Proofs.Try.f101, Go.Proofs.Try.func101, by kernel_rfl⟩
theorem c102 : okFunc Go.Proofs.Try.prog 102 = true ∧ ∃ fn, Go.Proofs.Try.prog.funcs[102]? = some fn ∧ cFunc Go.Proofs.Try.prog fn = some k102 := ⟨by kernel_rfl, Go.Proofs.Try.f102, Go.Proofs.Try.func102, by kernel_rfl⟩
theorem c105 : okFunc Go.Proofs.Try.prog 105 = true ∧ ∃ fn, Go.Proofs.Try.prog.funcs[105]? = some fn ∧ cFunc Go.Proofs.Try.prog fn = some k105 := ⟨by kernel_rfl, Go.Proofs.Try.f105, Go.Proofs.Try.func105, by kernel_rfl⟩
theorem c110 : okFunc Go.Proofs.Try.prog 110 = true ∧ ∃ fn, Go.Proofs.Try.prog.funcs[110]? = some fn ∧ cFunc Go.Proofs.Try.prog fn = some k110 := ⟨by kernel_rfl, Go.Proofs.Try.f110, Go.Proofs.Try.func110, by kernel_rfl⟩
theorem c111 : okFunc Go.Proofs.Try.prog 111 = true ∧ ∃ fn, Go.Proofs.Try.prog.funcs[111]? = some fn ∧ cFunc Go.Proofs.Try.prog fn = some k111 := ⟨by kernel_rfl, Go.Proofs.Try.f111, Go.Proofs.Try.func111, by kernel_rfl⟩
theorem c112 : okFunc Go.Proofs.Try.prog 112 = true ∧ ∃ fn, Go.Proofs.Try.prog.funcs[112]? = some fn ∧ cFunc Go.Proofs.Try.prog fn = some k112 := ⟨by kernel_rfl, Go.Proofs.Try.f112, Go.Proofs.Try.func112, by kernel_rfl⟩
theorem c113 : okFunc Go.Proofs.Try.prog 113 = true ∧ ∃ fn, Go.Proofs.Try.prog.funcs[113]? = some fn ∧ cFunc Go.Proofs.Try.prog fn = some k113 := ⟨by kernel_rfl, Go.Proofs.Try.f113, Go.Proofs.Try.func113, by kernel_rfl⟩
theorem c114 : okFunc Go.Proofs.Try.prog 114 = true ∧ ∃ fn, Go.Proofs.Try.prog.funcs[114]? = some fn ∧ cFunc Go.Proofs.Try.prog fn = some k114 := ⟨by kernel_rfl, Go.Proofs.Try.f114, Go.Proofs.Try.func114, by kernel_rfl⟩
theorem c115 : okFunc Go.Proofs.Try.prog 115 = true ∧ ∃ fn, Go.Proofs.Try.prog.funcs[115]? = some fn ∧ cFunc Go.Proofs.Try.prog fn = some k115 := ⟨by kernel_rfl, Go.Proofs.Try.f115, Go.Proofs.Try.func115, by kernel_rfl⟩
theorem c116 : okFunc Go.Proofs.Try.prog 116 = true ∧ ∃ fn, Go.Proofs.Try.prog.funcs[116]? = some fn ∧ cFunc Go.Proofs.Try.prog fn = some k116 := ⟨by kernel_rfl, Go.Proofs.Try.f116, Go.Proofs.Try.func116, by kernel_rfl⟩
theorem c117 : okFunc Go.Proofs.Try.prog 117 = true ∧ ∃ fn, Go.Proofs.Try.prog.funcs[117]? = some fn ∧ cFunc Go.Proofs.Try.prog fn = some k117 := ⟨by kernel_rfl, Go.Proofs.Try.f117, Go.Proofs.Try.func117, by kernel_rfl⟩
theorem c119 : okFunc Go.Proofs.Try.prog 119 = true ∧ ∃ fn, Go.Proofs.Try.prog.funcs[119]? = some fn ∧ cFunc Go.Proofs.Try.prog fn = some k119 := ⟨by kernel_rfl, Go.Proofs.Try.f119, Go.Proofs.Try.func119, by kernel_rfl⟩
theorem c124 : okFunc Go.Proofs.Try.prog 124 = true ∧ ∃ fn, Go.Proofs.Try.prog.funcs[124]? = some fn ∧ cFunc Go.Proofs.Try.prog fn = some k124 := ⟨by kernel_rfl, Go.Proofs.Try.f124, Go.Proofs.Try.func124, by kernel_rfl⟩
theorem c126 : okFunc Go.Proofs.Try.prog 126 = true ∧ ∃ fn, Go.Proofs.Try.prog.funcs[126]? = some fn ∧ cFunc Go.Proofs.Try.prog fn = some k126 := ⟨by kernel_rfl, Go.Proofs.Try.f126, Go.Proofs.Try.func126, by kernel_rfl⟩
theorem c131 : okFunc Go.Proofs.Try.prog 131 = true ∧ ∃ fn, Go.Proofs.Try.prog.funcs[131]? = some fn ∧ cFunc Go.Proofs.Try.prog fn = some k131 := ⟨by kernel_rfl, Go.Proofs.Try.f131, Go.Proofs.Try.func131, by kernel_rfl⟩
theorem c132 : okFunc Go.Proofs.Try.prog 132 = true ∧ ∃ fn, Go.Proofs.Try.prog.funcs[132]? = some fn ∧ cFunc Go.Proofs.Try.prog fn = some k132 := ⟨by kernel_rfl, Go.Proofs.Try.f132, Go.Proofs.Try.func132, by kernel_rfl⟩
theorem c133 : okFunc Go.Proofs.Try.prog 133 = true ∧ ∃ fn, Go.Proofs.Try.prog.funcs[133]? = some fn ∧ cFunc Go.Proofs.Try.prog fn = some k133 := ⟨by kernel_rfl, Go.Proofs.Try.f133, Go.Proofs.Try.func133, by kernel_rfl⟩
theorem c134 : okFunc Go.Proofs.Try.prog 134 = true ∧ ∃ fn, Go.Proofs.Try.prog.funcs[134]? = some fn ∧ cFunc Go.Proofs.Try.prog fn = some k134 := ⟨by kernel_rfl, Go.Proofs.Try.f134, Go.Proofs.Try.func134, by kernel_rfl⟩
theorem c137 : okFunc Go.Proofs.Try.prog 137 = true ∧ ∃ fn, Go.Proofs.Try.prog.funcs[137]? = some fn ∧ cFunc Go.Proofs.Try.prog fn = some k137 := ⟨by kernel_rfl, Go.Proofs.Try.f137, Go.Proofs.Try.func137, by kernel_rfl⟩
theorem c163 : okFunc Go.Proofs.Try.prog 163 = true ∧ ∃ fn, Go.Proofs.Try.prog.funcs[163]? = some fn ∧ cFunc Go.Proofs.Try.prog fn = some k163 := ⟨by kernel_rfl, Go.Proofs.Try.f163, Go.Proofs.Try.func163, by kernel_rfl⟩
theorem c164 : okFunc Go.Proofs.Try.prog 164 = true ∧ ∃ fn, Go.Proofs.Try.prog.funcs[164]? = some fn ∧ cFunc Go.Proofs.Try.prog fn = some k164 := ⟨by kernel_rfl, Go.Proofs.Try.f164, Go.Proofs.Try.func164, by kernel_rfl⟩
theorem c165 : okFunc Go.Proofs.Try.prog 165 = true ∧ ∃ fn, Go.Proofs.Try.prog.funcs[165]? = some fn ∧ cFunc Go.Proofs.Try.prog fn = some k165 := ⟨by kernel_rfl, Go.Proofs.Try.f165, Go.Proofs.Try.func165, by kernel_rfl⟩
theorem c166 : okFunc Go.Proofs.Try.prog 166 = true ∧ ∃ fn, Go.Proofs.Try.prog.funcs[166]? = some fn ∧ cFunc Go.Proofs.Try.prog fn = some k166 := ⟨by kernel_rfl, Go.Proofs.Try.f166, Go.Proofs.Try.func166, by kernel_rfl⟩
theorem c167 : okFunc Go.Proofs.Try.prog 167 = true ∧ ∃ fn, Go.Proofs.Try.prog.funcs[167]? = some fn ∧ cFunc Go.Proofs.Try.prog fn = some k167 := ⟨by kernel_rfl, Go.Proofs.Try.f167, Go.Proofs.Try.func167, by kernel_rfl⟩
theorem c170 : okFunc Go.Proofs.Try.prog 170 = true ∧ ∃ fn, Go.Proofs.Try.prog.funcs[170]? = some fn ∧ cFunc Go.Proofs.Try.prog fn = some k170 := ⟨by kernel_rfl, Go.Proofs.Try.f170, Go.Proofs.Try.func170, by kernel_rfl⟩
theorem c171 : okFunc Go.Proofs.Try.prog 171 = true ∧ ∃ fn, Go.Proofs.Try.prog.funcs[171]? = some fn ∧ cFunc Go.Proofs.Try.prog fn = some k171 := ⟨by kernel_rfl, Go.Proofs.Try.f171, Go.Proofs.Try.func171, by kernel_rfl⟩
theorem c172 : okFunc Go.Proofs.Try.prog 172 = true ∧ ∃ fn, Go.Proofs.Try.prog.funcs[172]? = some fn ∧ cFunc Go.Proofs.Try.prog fn = some k172 := ⟨by kernel_rfl, Go.Proofs.Try.f172, Go.Proofs.Try.func172, by kernel_rfl⟩
theorem c173 : okFunc Go.Proofs.Try.prog 173 = true ∧ ∃ fn, Go.Proofs.Try.prog.funcs[173]? = some fn ∧ cFunc Go.Proofs.Try.prog fn = some k173 := ⟨by kernel_rfl, Go.Proofs.Try.f173, Go.Proofs.Try.func173, by kernel_rfl⟩
def F : FuncId → Option KFunc
  | 7 => some k7
  | 8 => some k8
  | 9 => some k9
  | 22 => some k22
  | 28 => some k28
  | 29 => some k29
  | 30 => some k30
  | 31 => some k31
  | 32 => some k32
  | 33 => some k33
  | 34 => some k34
  | 35 => some k35
  | 36 => some k36
  | 49 => some k49
  | 57 => some k57
  | 59 => some k59
  | 60 => some k60
  | 61 => some k61
  | 70 => some k70
  | 76 => some k76
  | 77 => some k77
  | 78 => some k78
  | 79 => some k79
  | 80 => some k80
  | 81 => some k81
  | 82 => some k82
  | 83 => some k83
  | 84 => some k84
  | 85 => some k85
  | 86 => some k86
  | 92 => some k92
  | 99 => some k99
  | 101 => some k101
  | 102 => some k102
  | 105 => some k105
  | 110 => some k110
  | 111 => some k111
  | 112 => some k112
  | 113 => some k113
  | 114 => some k114
  | 115 => some k115
  | 116 => some k116
  | 117 => some k117
  | 119 => some k119
  | 124 => some k124
  | 126 => some k126
  | 131 => some k131
  | 132 => some k132
  | 133 => some k133
  | 134 => some k134
  | 137 => some k137
  | 163 => some k163
  | 164 => some k164
  | 165 => some k165
  | 166 => some k166
  | 167 => some k167
  | 170 => some k170
  | 171 => some k171
  | 172 => some k172
  | 173 => some k173
  | _ => none
def M : TypeId → String → Option (FuncId × Recv)
  | 157, "Len" => some (119, .ld)
  | 157, "Less" => some (170, .ld)
  | 157, "Swap" => some (173, .ld)
  | 157, "Pop" => some (171, .as)
  | 157, "Push" => some (172, .as)
  | 109, "Len" => some (112, .ld)
  | 109, "Less" => some (163, .ld)
  | 109, "Swap" => some (166, .ld)
  | 109, "Pop" => some (164, .as)
  | 109, "Push" => some (165, .as)
  | _, _ => none
theorem F_ok : ∀ f k, F f = some k → okFunc Go.Proofs.Try.prog f = true ∧ ∃ fn, Go.Proofs.Try.prog.funcs[f]? = some fn ∧ cFunc Go.Proofs.Try.prog fn = some k := by
  intro f k h
  unfold F at h
  split at h
  · cases h; exact c7
  · cases h; exact c8
  · cases h; exact c9
  · cases h; exact c22
  · cases h; exact c28
  · cases h; exact c29
  · cases h; exact c30
  · cases h; exact c31
  · cases h; exact c32
  · cases h; exact c33
  · cases h; exact c34
  · cases h; exact c35
  · cases h; exact c36
  · cases h; exact c49
  · cases h; exact c57
  · cases h; exact c59
  · cases h; exact c60
  · cases h; exact c61
  · cases h; exact c70
  · cases h; exact c76
  · cases h; exact c77
  · cases h; exact c78
  · cases h; exact c79
  · cases h; exact c80
  · cases h; exact c81
  · cases h; exact c82
  · cases h; exact c83
  · cases h; exact c84
  · cases h; exact c85
  · cases h; exact c86
  · cases h; exact c92
  · cases h; exact c99
  · cases h; exact c101
  · cases h; exact c102
  · cases h; exact c105
  · cases h; exact c110
  · cases h; exact c111
  · cases h; exact c112
  · cases h; exact c113
  · cases h; exact c114
  · cases h; exact c115
  · cases h; exact c116
  · cases h; exact c117
  · cases h; exact c119
  · cases h; exact c124
  · cases h; exact c126
  · cases h; exact c131
  · cases h; exact c132
  · cases h; exact c133
  · cases h; exact c134
  · cases h; exact c137
  · cases h; exact c163
  · cases h; exact c164
  · cases h; exact c165
  · cases h; exact c166
  · cases h; exact c167
  · cases h; exact c170
  · cases h; exact c171
  · cases h; exact c172
  · cases h; exact c173
  · cases h
theorem M_ok : ∀ t n f r, M t n = some (f, r) → methOk Go.Proofs.Try.prog t n f r = true := by
  intro t n f r h
  unfold M at h
  split at h
  · cases h; kernel_rfl
  · cases h; kernel_rfl
  · cases h; kernel_rfl
  · cases h; kernel_rfl
  · cases h; kernel_rfl
  · cases h; kernel_rfl
  · cases h; kernel_rfl
  · cases h; kernel_rfl
  · cases h; kernel_rfl
  · cases h; kernel_rfl
  · cases h
end Go.Proofs.Ytlboioplemlneaa.K
