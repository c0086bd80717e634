/- The functions in K's language, each held against the given translation by the kernel. Printed by a program of this work (seat.py). -/
import Derived.Test.YtlboioplemlneaaGreatKF3
import Derived.Test.YtlboioplemlneaaGreatProg
set_option maxRecDepth 100000
set_option linter.unusedVariables false
namespace Go.Proofs.YtlboioplemlneaaGreat.K
open Go Go.Proofs
def k5 : KFunc := ⟨21, (.seq (.reg [(.op (some 0) none (.mv (.c (.bool false))))]) (.seq (.reg [(.op (some 4) none (.call 8 [(.c (.string (bs [1, 4, 97])))])), (.op (some 5) none
  (.call 9 [(.t 4), (.c (.int .i64 4))])), (.op (some 3) none (.mv (.t 5))), (.op (some 6) none (.xt (.t 3) 0)), (.op (some 7) none (.xt (.t 3) 1)), (.op (some 1) none (.mv
  (.t 6))), (.op (some 2) none (.mv (.t 7)))]) (.seq (.reg [(.op (some 8) none (.call 6 [(.c (.string (bs [97, 97, 97, 97])))])), (.op (some 9) none (.bin .eql (.t 8) (.c
  (.string (bs [1, 4, 97]))))), (.op (some 10) none (.mv (.t 9))), (.op (some 11) (some (10, true)) (.mv (.t 2))), (.op (some 12) none (.pick (.t 10) (.t 11) (.c (.bool false)))),
  (.op (some 13) none (.mv (.t 12))), (.op (some 14) (some (13, true)) (.mv (.t 1))), (.op (some 15) (some (13, true)) (.bin .eql (.t 14) (.c (.string (bs [97, 97, 97, 97]))))),
  (.op (some 16) none (.pick (.t 13) (.t 15) (.c (.bool false)))), (.op (some 17) none (.mv (.t 16))), (.op (some 18) (some (17, true)) (.call 10 [(.c (.string (bs [97, 98])))])),
  (.op (some 19) (some (17, true)) (.bin .eql (.t 18) (.c (.string (bs [0, 2, 97, 98]))))), (.op (some 20) none (.pick (.t 17) (.t 19) (.c (.bool false)))), (.op (some 0) none
  (.mv (.t 20)))]) .ret))), [(.t 0)]⟩
def k3 : KFunc := ⟨82, (.seq (.reg [(.op (some 4) none (.mv (.c (.bool false))))]) (.seq (.seq (.reg [(.op (some 11) none (.call 5 [])), (.op (some 12) none (.un .not (.t 11)))])
  (.cond (.t 12) (.seq (.reg [(.op (some 4) none (.mv (.c (.bool false))))]) .ret) .skip)) (.seq (.seq (.reg [(.op (some 13) none (.mv (.t 0))), (.op (some 14) none (.lenS
  (.t 13))), (.op (some 15) none (.bin .gtr (.t 14) (.c (.int .i64 300)))), (.op (some 16) none (.mv (.t 15))), (.op (some 17) (some (16, false)) (.mv (.t 1))),
  (.op (some 18) (some (16, false)) (.lenS (.t 17))), (.op (some 19) (some (16, false)) (.bin .gtr (.t 18) (.c (.int .i64 20)))), (.op (some 20) none (.pick (.t 16) (.c
  (.bool true)) (.t 19)))]) (.cond (.t 20) (.seq (.reg [(.op (some 4) none (.mv (.c (.bool true))))]) .ret) .skip)) (.seq (.reg [(.op (some 21) none (.mv (.t 0))),
  (.op (some 22) none (.call 6 [(.t 21)])), (.op (some 5) none (.mv (.t 22)))]) (.seq (.reg [(.op (some 24) none (.mv (.t 5))), (.op (some 25) none (.mv (.t 1))),
  (.op (some 26) none (.bin .add (.t 24) (.t 25))), (.op (some 27) none (.mv (.t 0))), (.op (some 28) none (.lenS (.t 27))), (.op (some 29) none (.call 7 [(.t 26), (.t 28)])),
  (.op (some 23) none (.mv (.t 29))), (.op (some 30) none (.xt (.t 23) 0)), (.op (some 31) none (.xt (.t 23) 1)), (.op (some 6) none (.mv (.t 30))), (.op (some 7) none (.mv
  (.t 31)))]) (.seq (.reg [(.op (some 32) none (.mv (.t 5))), (.op (some 33) none (.mv (.t 1))), (.op (some 34) none (.bin .add (.t 32) (.t 33))), (.op (some 35) none
  (.call 8 [(.t 34)])), (.op (some 8) none (.mv (.t 35)))]) (.seq (.reg [(.op (some 37) none (.mv (.t 8))), (.op (some 38) none (.mv (.t 0))), (.op (some 39) none (.lenS
  (.t 38))), (.op (some 40) none (.call 9 [(.t 37), (.t 39)])), (.op (some 36) none (.mv (.t 40))), (.op (some 41) none (.xt (.t 36) 0)), (.op (some 42) none (.xt (.t 36) 1)),
  (.op (some 9) none (.mv (.t 41))), (.op (some 10) none (.mv (.t 42)))]) (.seq (.reg [(.op (some 43) none (.mv (.t 5))), (.op (some 44) none (.lenS (.t 43))), (.op (some 45) none
  (.mv (.t 0))), (.op (some 46) none (.call 10 [(.t 45)])), (.op (some 47) none (.lenS (.t 46))), (.op (some 48) none (.bin .leq (.t 44) (.t 47))), (.op (some 49) none (.mv
  (.t 48))), (.op (some 50) (some (49, true)) (.mv (.t 0))), (.op (some 51) (some (49, true)) (.call 10 [(.t 50)])), (.op (some 52) (some (49, true)) (.mv (.t 0))),
  (.op (some 53) (some (49, true)) (.call 11 [(.t 52)])), (.op (some 54) (some (49, true)) (.bin .add (.c (.string (bs [0]))) (.t 53))), (.op (some 55) (some (49, true))
  (.bin .eql (.t 51) (.t 54))), (.op (some 56) none (.pick (.t 49) (.t 55) (.c (.bool false)))), (.op (some 57) none (.mv (.t 56))), (.op (some 58) (some (57, true)) (.mv
  (.t 7))), (.op (some 59) (some (57, true)) (.mv (.t 5))), (.op (some 60) (some (57, true)) (.lenS (.t 59))), (.op (some 61) (some (57, true)) (.bin .eql (.t 58) (.t 60))),
  (.op (some 62) none (.pick (.t 57) (.t 61) (.c (.bool false)))), (.op (some 63) none (.mv (.t 62))), (.op (some 64) (some (63, true)) (.mv (.t 6))), (.op (some 65) (some (63,
  true)) (.mv (.t 0))), (.op (some 66) (some (63, true)) (.bin .eql (.t 64) (.t 65))), (.op (some 67) none (.pick (.t 63) (.t 66) (.c (.bool false)))), (.op (some 68) none (.mv
  (.t 67))), (.op (some 69) (some (68, true)) (.mv (.t 10))), (.op (some 70) none (.pick (.t 68) (.t 69) (.c (.bool false)))), (.op (some 71) none (.mv (.t 70))),
  (.op (some 72) (some (71, true)) (.mv (.t 9))), (.op (some 73) (some (71, true)) (.mv (.t 0))), (.op (some 74) (some (71, true)) (.bin .eql (.t 72) (.t 73))),
  (.op (some 75) none (.pick (.t 71) (.t 74) (.c (.bool false)))), (.op (some 76) none (.mv (.t 75))), (.op (some 77) (some (76, true)) (.mv (.t 8))), (.op (some 78) (some (76,
  true)) (.call 12 [(.t 77)])), (.op (some 79) (some (76, true)) (.mv (.t 1))), (.op (some 80) (some (76, true)) (.bin .eql (.t 78) (.t 79))), (.op (some 81) none (.pick (.t 76)
  (.t 80) (.c (.bool false)))), (.op (some 4) none (.mv (.t 81)))]) .ret)))))))), [(.t 4)]⟩
def k6 : KFunc := ⟨32, (.seq (.reg [(.op (some 2) none (.mv (.c (.string (bs [])))))]) (.seq (.seq (.reg [(.op (some 6) none (.mv (.t 0))), (.op (some 7) none
  (.call 13 [(.t 6)]))]) (.cond (.t 7) (.seq (.reg [(.op (some 8) none (.mv (.t 0))), (.op (some 9) none (.lenS (.t 8))), (.op (some 11) none (.mv (.t 0))), (.op (some 12) none
  (.slS (.t 11) none (some (.c (.int .i64 1))))), (.op (some 10) none (.call 14 [(.c (.int .i64 1)), (.t 9)])), (.op (some 13) none (.call 15 [(.t 10), (.t 12)])),
  (.op (some 14) none (.call 16 [(.t 13)])), (.op (some 2) none (.mv (.t 14)))]) .ret) .skip)) (.seq (.reg [(.op (some 15) none (.mv (.t 0))), (.op (some 16) none
  (.call 10 [(.t 15)])), (.op (some 3) none (.mv (.t 16)))]) (.seq (.seq (.reg [(.op (some 18) none (.mv (.t 0))), (.op (some 19) none (.call 17 [(.t 18)])), (.op (some 17) none
  (.mv (.t 19))), (.op (some 20) none (.xt (.t 17) 0)), (.op (some 21) none (.xt (.t 17) 1)), (.op (some 4) none (.mv (.t 20))), (.op (some 5) none (.mv (.t 21)))]) (.seq
  (.reg [(.op (some 22) none (.mv (.t 5))), (.op (some 23) none (.mv (.t 22))), (.op (some 24) (some (23, true)) (.mv (.t 4))), (.op (some 25) (some (23, true)) (.lenS (.t 24))),
  (.op (some 26) (some (23, true)) (.mv (.t 3))), (.op (some 27) (some (23, true)) (.lenS (.t 26))), (.op (some 28) (some (23, true)) (.bin .lss (.t 25) (.t 27))),
  (.op (some 29) none (.pick (.t 23) (.t 28) (.c (.bool false))))]) (.cond (.t 29) (.seq (.reg [(.op (some 30) none (.mv (.t 4))), (.op (some 2) none (.mv
  (.t 30)))]) .ret) .skip))) (.seq (.reg [(.op (some 31) none (.mv (.t 3))), (.op (some 2) none (.mv (.t 31)))]) .ret))))), [(.t 2)]⟩
def k7 : KFunc := ⟨144, (.seq (.reg [(.op (some 4) none (.mv (.c (.string (bs []))))), (.op (some 5) none (.mv (.c (.int .i64 0))))]) (.seq (.seq (.reg [(.op (some 16) none (.mv
  (.t 0))), (.op (some 17) none (.bin .eql (.t 16) (.c (.string (bs [])))))]) (.cond (.t 17) (.seq (.reg [(.op (some 4) none (.mv (.c (.string (bs []))))), (.op (some 5) none (.mv
  (.c (.int .i64 0))))]) .ret) .skip)) (.seq (.reg [(.op (some 19) none (.mv (.t 0))), (.op (some 20) none (.slS (.t 19) (some (.c (.int .i64 1))) none)), (.op (some 21) none
  (.call 18 [(.t 20)])), (.op (some 18) none (.mv (.t 21))), (.op (some 22) none (.xt (.t 18) 0)), (.op (some 23) none (.xt (.t 18) 1)), (.op (some 6) none (.mv (.t 22))),
  (.op (some 7) none (.mv (.t 23)))]) (.seq (.seq (.reg [(.op (some 24) none (.mv (.t 7))), (.op (some 25) none (.bin .eql (.t 24) (.c (.int .i64 0)))), (.op (some 26) none (.mv
  (.t 25))), (.op (some 27) (some (26, false)) (.mv (.t 1))), (.op (some 28) (some (26, false)) (.bin .lss (.t 27) (.c (.int .i64 0)))), (.op (some 29) none (.pick (.t 26) (.c
  (.bool true)) (.t 28))), (.op (some 30) none (.mv (.t 29))), (.op (some 31) (some (30, false)) (.mv (.t 6))), (.op (some 32) (some (30, false)) (.mv (.t 1))),
  (.op (some 33) (some (30, false)) (.cvt .u64 (.t 32))), (.op (some 34) (some (30, false)) (.bin .gtr (.t 31) (.t 33))), (.op (some 35) none (.pick (.t 30) (.c (.bool true))
  (.t 34))), (.op (some 36) none (.mv (.t 35))), (.op (some 37) (some (36, false)) (.mv (.t 6))), (.op (some 38) (some (36, false)) (.bin .gtr (.t 37) (.c (.int .u64 1048576)))),
  (.op (some 39) none (.pick (.t 36) (.c (.bool true)) (.t 38)))]) (.cond (.t 39) (.seq (.reg [(.op (some 4) none (.mv (.c (.string (bs []))))), (.op (some 5) none (.mv (.c
  (.int .i64 0))))]) .ret) .skip)) (.seq (.reg [(.op (some 40) none (.mv (.t 6))), (.op (some 41) none (.cvt .i64 (.t 40))), (.op (some 8) none (.mv (.t 41)))]) (.seq
  (.reg [(.op (some 42) none (.mv (.t 7))), (.op (some 43) none (.bin .add (.c (.int .i64 1)) (.t 42))), (.op (some 9) none (.mv (.t 43)))]) (.seq (.seq (.reg [(.op (some 44) none
  (.mv (.t 0))), (.op (some 45) none (.idS (.t 44) (.c (.int .i64 0))))]) (.block 0 (.seq (.reg [(.op (some 47) none (.bin .eql (.t 45) (.c (.int .u8 0)))), (.op (some 46) none
  (.mv (.t 47)))]) (.cond (.t 46) (.seq (.seq (.reg [(.op (some 48) none (.mv (.t 8))), (.op (some 49) none (.mv (.t 0))), (.op (some 50) none (.lenS (.t 49))),
  (.op (some 51) none (.mv (.t 9))), (.op (some 52) none (.bin .sub (.t 50) (.t 51))), (.op (some 53) none (.bin .gtr (.t 48) (.t 52)))]) (.cond (.t 53) (.seq
  (.reg [(.op (some 4) none (.mv (.c (.string (bs []))))), (.op (some 5) none (.mv (.c (.int .i64 0))))]) .ret) .skip)) (.seq (.reg [(.op (some 54) none (.mv (.t 0))),
  (.op (some 55) none (.mv (.t 9))), (.op (some 56) none (.mv (.t 9))), (.op (some 57) none (.mv (.t 8))), (.op (some 58) none (.bin .add (.t 56) (.t 57))), (.op (some 59) none
  (.slS (.t 54) (some (.t 55)) (some (.t 58)))), (.op (some 60) none (.mv (.t 9))), (.op (some 61) none (.mv (.t 8))), (.op (some 62) none (.bin .add (.t 60) (.t 61))),
  (.op (some 4) none (.mv (.t 59))), (.op (some 5) none (.mv (.t 62)))]) .ret)) (.seq (.reg [(.op (some 64) none (.bin .eql (.t 45) (.c (.int .u8 1)))), (.op (some 63) none (.mv
  (.t 64)))]) (.cond (.t 63) (.seq (.seq (.reg [(.op (some 65) none (.mv (.t 9))), (.op (some 66) none (.mv (.t 0))), (.op (some 67) none (.lenS (.t 66))), (.op (some 68) none
  (.bin .geq (.t 65) (.t 67)))]) (.cond (.t 68) (.seq (.reg [(.op (some 4) none (.mv (.c (.string (bs []))))), (.op (some 5) none (.mv (.c (.int .i64 0))))]) .ret) .skip)) (.seq
  (.reg [(.op (some 69) none (.mv (.t 8))), (.op (some 70) none (.mks 5 [(.int .u8 0)] 1 (.t 69) (.t 69))), (.op (some 10) none (.mv (.t 70)))]) (.seq (.seq
  (.reg [(.op (some 11) none (.mv (.c (.int .i64 0))))]) (.block 1 (.loop (.seq (.seq (.reg [(.op (some 71) none (.mv (.t 11))), (.op (some 72) none (.mv (.t 8))),
  (.op (some 73) none (.bin .lss (.t 71) (.t 72)))]) (.cond (.t 73) .skip (.exit 1))) (.seq (.block 2 (.reg [(.op (some 76) none (.mv (.t 10))), (.op (some 77) none (.mv
  (.t 11))), (.op (some 78) none (.mv (.t 0))), (.op (some 79) none (.mv (.t 9))), (.op (some 80) none (.idS (.t 78) (.t 79))), (.op (some 81) none (.iad 1 (.t 76) (.t 77))),
  (.op none none (.st (.t 81) (.t 80)))])) (.reg [(.op (some 74) none (.mv (.t 11))), (.op (some 75) none (.bin .add (.t 74) (.c (.int .i64 1)))), (.op (some 11) none (.mv
  (.t 75)))])))))) (.seq (.reg [(.op (some 82) none (.mv (.t 10))), (.op (some 83) none (.b2s 5 (.t 82))), (.op (some 84) none (.mv (.t 9))), (.op (some 85) none (.bin .add
  (.t 84) (.c (.int .i64 1)))), (.op (some 4) none (.mv (.t 83))), (.op (some 5) none (.mv (.t 85)))]) .ret)))) (.seq (.reg [(.op (some 87) none (.bin .eql (.t 45) (.c
  (.int .u8 2)))), (.op (some 86) none (.mv (.t 87)))]) (.cond (.t 86) (.seq (.reg [(.op (some 89) none (.mv (.t 0))), (.op (some 90) none (.mv (.t 9))), (.op (some 91) none (.slS
  (.t 89) (some (.t 90)) none)), (.op (some 92) none (.call 19 [(.t 91)])), (.op (some 88) none (.mv (.t 92))), (.op (some 93) none (.xt (.t 88) 0)), (.op (some 94) none (.xt
  (.t 88) 1)), (.op (some 12) none (.mv (.t 93))), (.op (some 13) none (.mv (.t 94)))]) (.seq (.seq (.reg [(.op (some 95) none (.mv (.t 13))), (.op (some 96) none (.bin .eql
  (.t 95) (.c (.int .i64 0))))]) (.cond (.t 96) (.seq (.reg [(.op (some 4) none (.mv (.c (.string (bs []))))), (.op (some 5) none (.mv (.c (.int .i64 0))))]) .ret) .skip)) (.seq
  (.reg [(.op (some 97) none (.mv (.t 9))), (.op (some 98) none (.mv (.t 13))), (.op (some 99) none (.bin .add (.t 97) (.t 98))), (.op (some 9) none (.mv (.t 99)))]) (.seq
  (.reg [(.op (some 101) none (.mv (.t 0))), (.op (some 102) none (.mv (.t 9))), (.op (some 103) none (.slS (.t 101) (some (.t 102)) none)), (.op (some 104) none
  (.call 18 [(.t 103)])), (.op (some 100) none (.mv (.t 104))), (.op (some 105) none (.xt (.t 100) 0)), (.op (some 106) none (.xt (.t 100) 1)), (.op (some 6) none (.mv (.t 105))),
  (.op (some 7) none (.mv (.t 106)))]) (.seq (.seq (.reg [(.op (some 107) none (.mv (.t 7))), (.op (some 108) none (.bin .eql (.t 107) (.c (.int .i64 0)))), (.op (some 109) none
  (.mv (.t 108))), (.op (some 110) (some (109, false)) (.mv (.t 6))), (.op (some 111) (some (109, false)) (.mv (.t 0))), (.op (some 112) (some (109, false)) (.lenS (.t 111))),
  (.op (some 113) (some (109, false)) (.mv (.t 9))), (.op (some 114) (some (109, false)) (.bin .sub (.t 112) (.t 113))), (.op (some 115) (some (109, false)) (.mv (.t 7))),
  (.op (some 116) (some (109, false)) (.bin .sub (.t 114) (.t 115))), (.op (some 117) (some (109, false)) (.cvt .u64 (.t 116))), (.op (some 118) (some (109, false)) (.bin .gtr
  (.t 110) (.t 117))), (.op (some 119) none (.pick (.t 109) (.c (.bool true)) (.t 118)))]) (.cond (.t 119) (.seq (.reg [(.op (some 4) none (.mv (.c (.string (bs []))))),
  (.op (some 5) none (.mv (.c (.int .i64 0))))]) .ret) .skip)) (.seq (.reg [(.op (some 120) none (.mv (.t 9))), (.op (some 121) none (.mv (.t 7))), (.op (some 122) none (.bin .add
  (.t 120) (.t 121))), (.op (some 9) none (.mv (.t 122)))]) (.seq (.reg [(.op (some 124) none (.mv (.t 12))), (.op (some 125) none (.mv (.t 0))), (.op (some 126) none (.mv
  (.t 9))), (.op (some 127) none (.mv (.t 9))), (.op (some 128) none (.mv (.t 6))), (.op (some 129) none (.cvt .i64 (.t 128))), (.op (some 130) none (.bin .add (.t 127)
  (.t 129))), (.op (some 131) none (.slS (.t 125) (some (.t 126)) (some (.t 130)))), (.op (some 132) none (.mv (.t 8))), (.op (some 133) none (.call 20 [(.t 124), (.t 131),
  (.t 132)])), (.op (some 123) none (.mv (.t 133))), (.op (some 134) none (.xt (.t 123) 0)), (.op (some 135) none (.xt (.t 123) 1)), (.op (some 14) none (.mv (.t 134))),
  (.op (some 15) none (.mv (.t 135)))]) (.seq (.seq (.reg [(.op (some 136) none (.mv (.t 15))), (.op (some 137) none (.un .not (.t 136)))]) (.cond (.t 137) (.seq
  (.reg [(.op (some 4) none (.mv (.c (.string (bs []))))), (.op (some 5) none (.mv (.c (.int .i64 0))))]) .ret) .skip)) (.seq (.reg [(.op (some 138) none (.mv (.t 14))),
  (.op (some 139) none (.b2s 5 (.t 138))), (.op (some 140) none (.mv (.t 9))), (.op (some 141) none (.mv (.t 6))), (.op (some 142) none (.cvt .i64 (.t 141))), (.op (some 143) none
  (.bin .add (.t 140) (.t 142))), (.op (some 4) none (.mv (.t 139))), (.op (some 5) none (.mv (.t 143)))]) .ret))))))))) .skip)))))))) (.seq (.reg [(.op (some 4) none (.mv (.c
  (.string (bs []))))), (.op (some 5) none (.mv (.c (.int .i64 0))))]) .ret)))))))), [(.t 4), (.t 5)]⟩
def k8 : KFunc := ⟨6, (.seq (.reg [(.op (some 2) none (.mv (.c (.pointer none))))]) (.seq (.reg [(.op (some 3) none (.mv (.t 0))), (.op (some 4) none (.build [(.string (bs [])),
  (.bool false)] [(0, (1, (.t 3)))])), (.op (some 5) none (.box 48 (.t 4))), (.op (some 2) none (.mv (.t 5)))]) .ret)), [(.t 2)]⟩
def k9 : KFunc := ⟨44, (.seq (.reg [(.op (some 4) none (.mv (.c (.string (bs []))))), (.op (some 5) none (.mv (.c (.bool false))))]) (.seq (.reg [(.op (some 10) none (.mv
  (.t 0))), (.op (some 11) none (.call 21 [(.t 10), (.c (.int .i64 1))])), (.op (some 6) none (.mv (.t 11)))]) (.seq (.reg [(.op (some 12) none (.mv (.t 0))), (.op (some 13) none
  (.mv (.t 1))), (.op (some 14) none (.mn (.t 13) [(.c (.int .i64 1048576))])), (.op (some 15) none (.call 22 [(.t 12), (.t 14)])), (.op (some 7) none (.mv (.t 15)))]) (.seq (.seq
  (.reg [(.op (some 16) none (.mv (.t 0))), (.op (some 17) none (.call 23 [(.t 16)]))]) (.cond (.t 17) (.seq (.reg [(.op (some 4) none (.mv (.c (.string (bs []))))),
  (.op (some 5) none (.mv (.c (.bool false))))]) .ret) .skip)) (.seq (.seq (.reg [(.op (some 18) none (.mv (.t 6)))]) (.block 0 (.seq (.reg [(.op (some 20) none (.bin .eql (.t 18)
  (.c (.int .u64 0)))), (.op (some 19) none (.mv (.t 20)))]) (.cond (.t 19) (.seq (.reg [(.op (some 21) none (.mv (.t 0))), (.op (some 22) none (.mv (.t 7))), (.op (some 23) none
  (.call 24 [(.t 21), (.t 22)])), (.op (some 8) none (.mv (.t 23)))]) (.seq (.reg [(.op (some 24) none (.mv (.t 8))), (.op (some 25) none (.mv (.t 0))), (.op (some 26) none
  (.call 23 [(.t 25)])), (.op (some 27) none (.un .not (.t 26))), (.op (some 4) none (.mv (.t 24))), (.op (some 5) none (.mv (.t 27)))]) .ret)) (.seq (.reg [(.op (some 29) none
  (.bin .eql (.t 18) (.c (.int .u64 1)))), (.op (some 28) none (.mv (.t 29)))]) (.cond (.t 28) (.seq (.reg [(.op (some 30) none (.mv (.t 0))), (.op (some 31) none
  (.call 24 [(.t 30), (.c (.int .i64 1))])), (.op (some 9) none (.mv (.t 31)))]) (.seq (.seq (.reg [(.op (some 32) none (.mv (.t 0))), (.op (some 33) none (.call 23 [(.t 32)]))])
  (.cond (.t 33) (.seq (.reg [(.op (some 4) none (.mv (.c (.string (bs []))))), (.op (some 5) none (.mv (.c (.bool false))))]) .ret) .skip)) (.seq (.reg [(.op (some 34) none (.mv
  (.t 9))), (.op (some 35) none (.mv (.t 7))), (.op (some 36) none (.call 25 [(.t 34), (.t 35)])), (.op (some 4) none (.mv (.t 36))), (.op (some 5) none (.mv (.c
  (.bool true))))]) .ret))) (.seq (.reg [(.op (some 38) none (.bin .eql (.t 18) (.c (.int .u64 2)))), (.op (some 37) none (.mv (.t 38)))]) (.cond (.t 37) (.seq
  (.reg [(.op (some 39) none (.mv (.t 0))), (.op (some 40) none (.mv (.t 7))), (.op (some 41) none (.call 26 [(.t 39), (.t 40)])), (.op (some 42) none (.xt (.t 41) 0)),
  (.op (some 43) none (.xt (.t 41) 1)), (.op (some 4) none (.mv (.t 42))), (.op (some 5) none (.mv (.t 43)))]) .ret) .skip)))))))) (.seq (.reg [(.op (some 4) none (.mv (.c
  (.string (bs []))))), (.op (some 5) none (.mv (.c (.bool false))))]) .ret)))))), [(.t 4), (.t 5)]⟩
def k10 : KFunc := ⟨9, (.seq (.reg [(.op (some 2) none (.mv (.c (.string (bs [])))))]) (.seq (.reg [(.op (some 3) none (.mv (.t 0))), (.op (some 4) none (.lenS (.t 3))),
  (.op (some 5) none (.call 14 [(.c (.int .i64 0)), (.t 4)])), (.op (some 6) none (.mv (.t 0))), (.op (some 7) none (.call 15 [(.t 5), (.t 6)])), (.op (some 8) none
  (.call 16 [(.t 7)])), (.op (some 2) none (.mv (.t 8)))]) .ret)), [(.t 2)]⟩
def k11 : KFunc := ⟨9, (.seq (.reg [(.op (some 2) none (.mv (.c (.string (bs [])))))]) (.seq (.reg [(.op (some 3) none (.mv (.t 0))), (.op (some 4) none (.lenS (.t 3))),
  (.op (some 5) none (.cvt .u64 (.t 4))), (.op (some 6) none (.call 27 [(.t 5)])), (.op (some 7) none (.mv (.t 0))), (.op (some 8) none (.bin .add (.t 6) (.t 7))),
  (.op (some 2) none (.mv (.t 8)))]) .ret)), [(.t 2)]⟩
def k12 : KFunc := ⟨12, (.seq (.reg [(.op (some 2) none (.mv (.c (.string (bs [])))))]) (.seq (.seq (.reg [(.op (some 3) none (.mv (.t 0))), (.op (some 4) none
  (.call 23 [(.t 3)]))]) (.cond (.t 4) (.seq (.reg [(.op (some 2) none (.mv (.c (.string (bs [])))))]) .ret) .skip)) (.seq (.reg [(.op (some 5) none (.mv (.t 0))),
  (.op (some 6) none (.mv (.t 0))), (.op (some 7) none (.nck (.t 6))), (.op (some 8) none (.fad 0 (.t 7))), (.op (some 9) none (.ld (.t 8))), (.op (some 10) none (.lenS (.t 9))),
  (.op (some 11) none (.call 24 [(.t 5), (.t 10)])), (.op (some 2) none (.mv (.t 11)))]) .ret))), [(.t 2)]⟩
def k13 : KFunc := ⟨14, (.seq (.reg [(.op (some 2) none (.mv (.c (.bool false))))]) (.seq (.reg [(.op (some 3) none (.mv (.t 0))), (.op (some 4) none (.bin .neq (.t 3) (.c
  (.string (bs []))))), (.op (some 5) none (.mv (.t 4))), (.op (some 6) (some (5, true)) (.mv (.t 0))), (.op (some 7) (some (5, true)) (.mv (.t 0))), (.op (some 8) (some (5,
  true)) (.slS (.t 7) none (some (.c (.int .i64 1))))), (.op (some 9) (some (5, true)) (.mv (.t 0))), (.op (some 10) (some (5, true)) (.lenS (.t 9))), (.op (some 11) (some (5,
  true)) (.call 25 [(.t 8), (.t 10)])), (.op (some 12) (some (5, true)) (.bin .eql (.t 6) (.t 11))), (.op (some 13) none (.pick (.t 5) (.t 12) (.c (.bool false)))),
  (.op (some 2) none (.mv (.t 13)))]) .ret)), [(.t 2)]⟩
def k14 : KFunc := ⟨12, (.seq (.reg [(.op (some 4) none (.mv (.c (.pointer none))))]) (.seq (.reg [(.op (some 5) none (.alloc 55 [(.slice none 0 0)]))]) (.seq
  (.reg [(.op (some 6) none (.mv (.t 0))), (.op (some 7) none (.cvt .u64 (.t 6))), (.op (some 8) none (.call 28 [(.t 5), (.t 7), (.c (.int .i64 1))])), (.op (some 9) none (.mv
  (.t 1))), (.op (some 10) none (.cvt .u64 (.t 9))), (.op (some 11) none (.call 29 [(.t 8), (.t 10)])), (.op (some 4) none (.mv (.t 11)))]) .ret))), [(.t 4)]⟩
def k15 : KFunc := ⟨17, (.seq (.reg [(.op (some 4) none (.mv (.c (.pointer none))))]) (.seq (.seq (.reg [(.op (some 5) none (.mv (.t 0))), (.op (some 6) none (.eqv .ptr false
  (.t 5) (.c (.pointer none))))]) (.cond (.t 6) (.seq (.reg [(.op (some 4) none (.mv (.c (.pointer none))))]) .ret) .skip)) (.seq (.reg [(.op (some 7) none (.mv (.t 0))),
  (.op (some 8) none (.mv (.t 0))), (.op (some 9) none (.nck (.t 8))), (.op (some 10) none (.fad 0 (.t 9))), (.op (some 11) none (.ld (.t 10))), (.op (some 12) none (.mv (.t 1))),
  (.op (some 13) none (.appS 5 (.t 11) (.t 12))), (.op (some 14) none (.nck (.t 7))), (.op (some 15) none (.fad 0 (.t 14))), (.op none none (.st (.t 15) (.t 13)))]) (.seq
  (.reg [(.op (some 16) none (.mv (.t 0))), (.op (some 4) none (.mv (.t 16)))]) .ret)))), [(.t 4)]⟩
def k16 : KFunc := ⟨10, (.seq (.reg [(.op (some 2) none (.mv (.c (.string (bs [])))))]) (.seq (.seq (.reg [(.op (some 3) none (.mv (.t 0))), (.op (some 4) none (.eqv .ptr false
  (.t 3) (.c (.pointer none))))]) (.cond (.t 4) (.seq (.reg [(.op (some 2) none (.mv (.c (.string (bs [])))))]) .ret) .skip)) (.seq (.reg [(.op (some 5) none (.mv (.t 0))),
  (.op (some 6) none (.nck (.t 5))), (.op (some 7) none (.fad 0 (.t 6))), (.op (some 8) none (.ld (.t 7))), (.op (some 9) none (.b2s 5 (.t 8))), (.op (some 2) none (.mv
  (.t 9)))]) .ret))), [(.t 2)]⟩
def k17 : KFunc := ⟨39, (.seq (.reg [(.op (some 2) none (.mv (.c (.string (bs []))))), (.op (some 3) none (.mv (.c (.bool false))))]) (.seq (.reg [(.op (some 10) none (.mv
  (.t 0))), (.op (some 11) none (.s2b 5 (.t 10))), (.op (some 12) none (.call 31 [(.t 11)])), (.op (some 13) none (.call 30 [(.t 12)])), (.op (some 9) none (.mv (.t 13))),
  (.op (some 14) none (.xt (.t 9) 0)), (.op (some 15) none (.xt (.t 9) 1)), (.op (some 4) none (.mv (.t 14))), (.op (some 5) none (.mv (.t 15)))]) (.seq (.seq
  (.reg [(.op (some 16) none (.mv (.t 5))), (.op (some 17) none (.un .not (.t 16)))]) (.cond (.t 17) (.seq (.reg [(.op (some 2) none (.mv (.c (.string (bs []))))),
  (.op (some 3) none (.mv (.c (.bool false))))]) .ret) .skip)) (.seq (.reg [(.op (some 19) none (.mv (.t 4))), (.op (some 20) none (.call 32 [(.t 19)])), (.op (some 18) none (.mv
  (.t 20))), (.op (some 21) none (.xt (.t 18) 0)), (.op (some 22) none (.xt (.t 18) 1)), (.op (some 6) none (.mv (.t 21))), (.op (some 7) none (.mv (.t 22)))]) (.seq
  (.reg [(.op (some 24) none (.mv (.t 4))), (.op (some 25) none (.mv (.t 0))), (.op (some 26) none (.s2b 5 (.t 25))), (.op (some 27) none (.call 33 [(.t 24), (.t 26)])),
  (.op (some 23) none (.mv (.t 27))), (.op (some 28) none (.xt (.t 23) 0)), (.op (some 29) none (.xt (.t 23) 1)), (.op (some 8) none (.mv (.t 28))), (.op (some 5) none (.mv
  (.t 29)))]) (.seq (.reg [(.op (some 30) none (.mv (.t 0))), (.op (some 31) none (.lenS (.t 30))), (.op (some 32) none (.call 14 [(.c (.int .i64 2)), (.t 31)])),
  (.op (some 33) none (.mv (.t 6))), (.op (some 34) none (.call 15 [(.t 32), (.t 33)])), (.op (some 35) none (.mv (.t 8))), (.op (some 36) none (.call 34 [(.t 34), (.t 35)])),
  (.op (some 37) none (.call 16 [(.t 36)])), (.op (some 38) none (.mv (.t 5))), (.op (some 2) none (.mv (.t 37))), (.op (some 3) none (.mv (.t 38)))]) .ret)))))), [(.t 2), (.t 3)]⟩
def k18 : KFunc := ⟨52, (.seq (.reg [(.op (some 2) none (.mv (.c (.int .u64 0)))), (.op (some 3) none (.mv (.c (.int .i64 0))))]) (.seq (.reg [(.op (some 4) none (.mv (.c
  (.int .i64 0))))]) (.seq (.block 0 (.loop (.seq (.seq (.reg [(.op (some 7) none (.mv (.t 4))), (.op (some 8) none (.mv (.t 0))), (.op (some 9) none (.lenS (.t 8))),
  (.op (some 10) none (.bin .lss (.t 7) (.t 9))), (.op (some 11) none (.mv (.t 10))), (.op (some 12) (some (11, true)) (.mv (.t 0))), (.op (some 13) (some (11, true)) (.mv
  (.t 4))), (.op (some 14) (some (11, true)) (.idS (.t 12) (.t 13))), (.op (some 15) (some (11, true)) (.bin .geq (.t 14) (.c (.int .u8 128)))), (.op (some 16) none (.pick (.t 11)
  (.t 15) (.c (.bool false))))]) (.cond (.t 16) .skip (.exit 0))) (.block 1 (.reg [(.op (some 17) none (.mv (.t 4))), (.op (some 18) none (.bin .add (.t 17) (.c (.int .i64 1)))),
  (.op (some 4) none (.mv (.t 18)))]))))) (.seq (.seq (.reg [(.op (some 19) none (.mv (.t 4))), (.op (some 20) none (.mv (.t 0))), (.op (some 21) none (.lenS (.t 20))),
  (.op (some 22) none (.bin .eql (.t 19) (.t 21))), (.op (some 23) none (.mv (.t 22))), (.op (some 24) (some (23, false)) (.mv (.t 4))), (.op (some 25) (some (23, false))
  (.bin .gtr (.t 24) (.c (.int .i64 9)))), (.op (some 26) none (.pick (.t 23) (.c (.bool true)) (.t 25)))]) (.cond (.t 26) (.seq (.reg [(.op (some 2) none (.mv (.c
  (.int .u64 0)))), (.op (some 3) none (.mv (.c (.int .i64 0))))]) .ret) .skip)) (.seq (.reg [(.op (some 5) none (.mv (.c (.int .u64 0))))]) (.seq (.seq (.reg [(.op (some 27) none
  (.mv (.t 4))), (.op (some 6) none (.mv (.t 27)))]) (.block 2 (.loop (.seq (.seq (.reg [(.op (some 28) none (.mv (.t 6))), (.op (some 29) none (.bin .geq (.t 28) (.c
  (.int .i64 0))))]) (.cond (.t 29) .skip (.exit 2))) (.seq (.block 3 (.seq (.seq (.reg [(.op (some 32) none (.mv (.t 5))), (.op (some 33) none (.bin .gtr (.t 32) (.c
  (.int .u64 144115188075855871))))]) (.cond (.t 33) (.seq (.reg [(.op (some 2) none (.mv (.c (.int .u64 0)))), (.op (some 3) none (.mv (.c (.int .i64 0))))]) .ret) .skip))
  (.reg [(.op (some 34) none (.mv (.t 5))), (.op (some 35) none (.bin .mul (.t 34) (.c (.int .u64 128)))), (.op (some 36) none (.mv (.t 0))), (.op (some 37) none (.mv (.t 6))),
  (.op (some 38) none (.idS (.t 36) (.t 37))), (.op (some 39) none (.bin .rem (.t 38) (.c (.int .u8 128)))), (.op (some 40) none (.cvt .u64 (.t 39))), (.op (some 41) none
  (.bin .add (.t 35) (.t 40))), (.op (some 5) none (.mv (.t 41)))]))) (.reg [(.op (some 30) none (.mv (.t 6))), (.op (some 31) none (.bin .sub (.t 30) (.c (.int .i64 1)))),
  (.op (some 6) none (.mv (.t 31)))])))))) (.seq (.seq (.reg [(.op (some 42) none (.mv (.t 5))), (.op (some 44) none (.mv (.t 0))), (.op (some 45) none (.mv (.t 4))),
  (.op (some 46) none (.bin .add (.t 45) (.c (.int .i64 1)))), (.op (some 47) none (.slS (.t 44) none (some (.t 46)))), (.op (some 43) none (.call 27 [(.t 42)])),
  (.op (some 48) none (.bin .neq (.t 43) (.t 47)))]) (.cond (.t 48) (.seq (.reg [(.op (some 2) none (.mv (.c (.int .u64 0)))), (.op (some 3) none (.mv (.c
  (.int .i64 0))))]) .ret) .skip)) (.seq (.reg [(.op (some 49) none (.mv (.t 5))), (.op (some 50) none (.mv (.t 4))), (.op (some 51) none (.bin .add (.t 50) (.c (.int .i64 1)))),
  (.op (some 2) none (.mv (.t 49))), (.op (some 3) none (.mv (.t 51)))]) .ret)))))))), [(.t 2), (.t 3)]⟩
def k19 : KFunc := ⟨57, (.seq (.reg [(.op (some 2) none (.mv (.c (.slice none 0 0)))), (.op (some 3) none (.mv (.c (.int .i64 0))))]) (.seq (.seq (.reg [(.op (some 9) none (.mv
  (.t 0))), (.op (some 10) none (.bin .eql (.t 9) (.c (.string (bs [])))))]) (.cond (.t 10) (.seq (.reg [(.op (some 2) none (.mv (.c (.slice none 0 0)))), (.op (some 3) none (.mv
  (.c (.int .i64 0))))]) .ret) .skip)) (.seq (.reg [(.op (some 11) none (.mv (.t 0))), (.op (some 12) none (.idS (.t 11) (.c (.int .i64 0)))), (.op (some 13) none (.cvt .i64
  (.t 12))), (.op (some 14) none (.bin .add (.t 13) (.c (.int .i64 1)))), (.op (some 4) none (.mv (.t 14)))]) (.seq (.reg [(.op (some 15) none (.mv (.t 4))), (.op (some 16) none
  (.bin .add (.t 15) (.c (.int .i64 1)))), (.op (some 17) none (.bin .quo (.t 16) (.c (.int .i64 2)))), (.op (some 18) none (.bin .add (.c (.int .i64 1)) (.t 17))),
  (.op (some 5) none (.mv (.t 18)))]) (.seq (.seq (.reg [(.op (some 19) none (.mv (.t 5))), (.op (some 20) none (.mv (.t 0))), (.op (some 21) none (.lenS (.t 20))),
  (.op (some 22) none (.bin .gtr (.t 19) (.t 21)))]) (.cond (.t 22) (.seq (.reg [(.op (some 2) none (.mv (.c (.slice none 0 0)))), (.op (some 3) none (.mv (.c
  (.int .i64 0))))]) .ret) .skip)) (.seq (.reg [(.op (some 6) none (.mv (.c (.slice none 0 0))))]) (.seq (.seq (.reg [(.op (some 7) none (.mv (.c (.int .i64 0))))]) (.block 0
  (.loop (.seq (.seq (.reg [(.op (some 23) none (.mv (.t 7))), (.op (some 24) none (.mv (.t 4))), (.op (some 25) none (.bin .lss (.t 23) (.t 24)))]) (.cond (.t 25) .skip
  (.exit 0))) (.seq (.block 1 (.seq (.reg [(.op (some 28) none (.mv (.t 0))), (.op (some 29) none (.mv (.t 7))), (.op (some 30) none (.bin .quo (.t 29) (.c (.int .i64 2)))),
  (.op (some 31) none (.bin .add (.c (.int .i64 1)) (.t 30))), (.op (some 32) none (.idS (.t 28) (.t 31))), (.op (some 33) none (.cvt .i64 (.t 32))), (.op (some 8) none (.mv
  (.t 33)))]) (.seq (.seq (.reg [(.op (some 34) none (.mv (.t 7))), (.op (some 35) none (.bin .rem (.t 34) (.c (.int .i64 2)))), (.op (some 36) none (.bin .eql (.t 35) (.c
  (.int .i64 1))))]) (.cond (.t 36) (.reg [(.op (some 37) none (.mv (.t 8))), (.op (some 38) none (.bin .quo (.t 37) (.c (.int .i64 16)))), (.op (some 8) none (.mv
  (.t 38)))]) .skip)) (.reg [(.op (some 39) none (.mv (.t 6))), (.op (some 40) none (.mv (.t 8))), (.op (some 41) none (.bin .rem (.t 40) (.c (.int .i64 16)))),
  (.op (some 42) none (.bsl 3 1 [(.int .i64 0)] [(0, (1, (.t 41)))])), (.op (some 43) none (.app 3 1 8 (.t 39) (.t 42))), (.op (some 6) none (.mv (.t 43)))]))))
  (.reg [(.op (some 26) none (.mv (.t 7))), (.op (some 27) none (.bin .add (.t 26) (.c (.int .i64 1)))), (.op (some 7) none (.mv (.t 27)))])))))) (.seq (.seq
  (.reg [(.op (some 44) none (.mv (.t 6))), (.op (some 45) none (.call 35 [(.t 44)])), (.op (some 46) none (.un .not (.t 45))), (.op (some 47) none (.mv (.t 46))),
  (.op (some 48) (some (47, false)) (.mv (.t 6))), (.op (some 50) (some (47, false)) (.mv (.t 0))), (.op (some 51) (some (47, false)) (.mv (.t 5))), (.op (some 52) (some (47,
  false)) (.slS (.t 50) none (some (.t 51)))), (.op (some 49) (some (47, false)) (.call 36 [(.t 48)])), (.op (some 53) (some (47, false)) (.bin .neq (.t 49) (.t 52))),
  (.op (some 54) none (.pick (.t 47) (.c (.bool true)) (.t 53)))]) (.cond (.t 54) (.seq (.reg [(.op (some 2) none (.mv (.c (.slice none 0 0)))), (.op (some 3) none (.mv (.c
  (.int .i64 0))))]) .ret) .skip)) (.seq (.reg [(.op (some 55) none (.mv (.t 6))), (.op (some 56) none (.mv (.t 5))), (.op (some 2) none (.mv (.t 55))), (.op (some 3) none (.mv
  (.t 56)))]) .ret))))))))), [(.t 2), (.t 3)]⟩
def k20 : KFunc := ⟨88, (.seq (.reg [(.op (some 6) none (.mv (.c (.slice none 0 0)))), (.op (some 7) none (.mv (.c (.bool false))))]) (.seq (.reg [(.op (some 8) none
  (.alloc 65 [(.slice none 0 0), (.slice none 0 0), (.slice none 0 0), (.slice none 0 0), (.slice none 0 0), (.slice none 0 0), (.slice none 0 0), (.slice none 0 0),
  (.slice none 0 0), (.slice none 0 0), (.slice none 0 0), (.slice none 0 0), (.slice none 0 0), (.slice none 0 0), (.slice none 0 0), (.slice none 0 0), (.slice none 0 0),
  (.slice none 0 0), (.slice none 0 0), (.slice none 0 0), (.slice none 0 0), (.slice none 0 0), (.slice none 0 0), (.slice none 0 0), (.slice none 0 0), (.slice none 0 0),
  (.slice none 0 0), (.slice none 0 0), (.slice none 0 0), (.slice none 0 0), (.slice none 0 0), (.slice none 0 0), (.slice none 0 0), (.slice none 0 0), (.slice none 0 0),
  (.slice none 0 0), (.slice none 0 0), (.slice none 0 0), (.slice none 0 0), (.slice none 0 0), (.slice none 0 0), (.slice none 0 0), (.slice none 0 0), (.slice none 0 0),
  (.slice none 0 0), (.slice none 0 0), (.slice none 0 0), (.slice none 0 0), (.slice none 0 0), (.slice none 0 0), (.slice none 0 0), (.slice none 0 0), (.slice none 0 0),
  (.slice none 0 0), (.slice none 0 0), (.slice none 0 0), (.slice none 0 0), (.slice none 0 0), (.slice none 0 0), (.slice none 0 0), (.slice none 0 0), (.slice none 0 0),
  (.slice none 0 0), (.slice none 0 0), (.slice none 0 0), (.slice none 0 0), (.slice none 0 0), (.slice none 0 0), (.slice none 0 0), (.slice none 0 0), (.slice none 0 0),
  (.slice none 0 0), (.slice none 0 0), (.slice none 0 0), (.slice none 0 0), (.slice none 0 0), (.slice none 0 0), (.slice none 0 0), (.slice none 0 0), (.slice none 0 0),
  (.slice none 0 0), (.slice none 0 0), (.slice none 0 0), (.slice none 0 0), (.slice none 0 0), (.slice none 0 0), (.slice none 0 0), (.slice none 0 0), (.slice none 0 0),
  (.slice none 0 0), (.slice none 0 0), (.slice none 0 0), (.slice none 0 0), (.slice none 0 0), (.slice none 0 0), (.slice none 0 0), (.slice none 0 0), (.slice none 0 0),
  (.slice none 0 0), (.slice none 0 0), (.slice none 0 0), (.slice none 0 0), (.slice none 0 0), (.slice none 0 0), (.slice none 0 0), (.slice none 0 0), (.slice none 0 0),
  (.slice none 0 0), (.slice none 0 0), (.slice none 0 0), (.slice none 0 0), (.slice none 0 0), (.slice none 0 0), (.slice none 0 0), (.slice none 0 0), (.slice none 0 0),
  (.slice none 0 0), (.slice none 0 0), (.slice none 0 0), (.slice none 0 0), (.slice none 0 0), (.slice none 0 0), (.slice none 0 0), (.slice none 0 0), (.slice none 0 0),
  (.slice none 0 0), (.slice none 0 0), (.slice none 0 0), (.slice none 0 0), (.slice none 0 0), (.slice none 0 0), (.slice none 0 0), (.slice none 0 0), (.slice none 0 0),
  (.slice none 0 0), (.slice none 0 0), (.slice none 0 0), (.slice none 0 0), (.slice none 0 0), (.slice none 0 0), (.slice none 0 0), (.slice none 0 0), (.slice none 0 0),
  (.slice none 0 0), (.slice none 0 0), (.slice none 0 0), (.slice none 0 0), (.slice none 0 0), (.slice none 0 0), (.slice none 0 0), (.slice none 0 0), (.slice none 0 0),
  (.slice none 0 0), (.slice none 0 0), (.slice none 0 0), (.slice none 0 0), (.slice none 0 0), (.slice none 0 0), (.slice none 0 0), (.slice none 0 0), (.slice none 0 0),
  (.slice none 0 0), (.slice none 0 0), (.slice none 0 0), (.slice none 0 0), (.slice none 0 0), (.slice none 0 0), (.slice none 0 0), (.slice none 0 0), (.slice none 0 0),
  (.slice none 0 0), (.slice none 0 0), (.slice none 0 0), (.slice none 0 0), (.slice none 0 0), (.slice none 0 0), (.slice none 0 0), (.slice none 0 0), (.slice none 0 0),
  (.slice none 0 0), (.slice none 0 0), (.slice none 0 0), (.slice none 0 0), (.slice none 0 0), (.slice none 0 0), (.slice none 0 0), (.slice none 0 0), (.slice none 0 0),
  (.slice none 0 0), (.slice none 0 0), (.slice none 0 0), (.slice none 0 0), (.slice none 0 0), (.slice none 0 0), (.slice none 0 0), (.slice none 0 0), (.slice none 0 0),
  (.slice none 0 0), (.slice none 0 0), (.slice none 0 0), (.slice none 0 0), (.slice none 0 0), (.slice none 0 0), (.slice none 0 0), (.slice none 0 0), (.slice none 0 0),
  (.slice none 0 0), (.slice none 0 0), (.slice none 0 0), (.slice none 0 0), (.slice none 0 0), (.slice none 0 0), (.slice none 0 0), (.slice none 0 0), (.slice none 0 0),
  (.slice none 0 0), (.slice none 0 0), (.slice none 0 0), (.slice none 0 0), (.slice none 0 0), (.slice none 0 0), (.slice none 0 0), (.slice none 0 0), (.slice none 0 0),
  (.slice none 0 0), (.slice none 0 0), (.slice none 0 0), (.slice none 0 0), (.slice none 0 0), (.slice none 0 0), (.slice none 0 0), (.slice none 0 0), (.slice none 0 0),
  (.slice none 0 0), (.slice none 0 0), (.slice none 0 0), (.slice none 0 0), (.slice none 0 0), (.slice none 0 0), (.slice none 0 0), (.slice none 0 0), (.slice none 0 0),
  (.slice none 0 0), (.slice none 0 0), (.slice none 0 0), (.slice none 0 0), (.slice none 0 0), (.slice none 0 0), (.slice none 0 0), (.slice none 0 0), (.slice none 0 0),
  (.slice none 0 0), (.slice none 0 0), (.slice none 0 0), (.slice none 0 0), (.slice none 0 0)]))]) (.seq (.seq (.reg [(.op (some 9) none (.mv (.c (.int .i64 0))))]) (.block 0
  (.loop (.seq (.seq (.reg [(.op (some 16) none (.mv (.t 9))), (.op (some 17) none (.mv (.t 0))), (.op (some 18) none (.lenL (.t 17))), (.op (some 19) none (.bin .lss (.t 16)
  (.t 18)))]) (.cond (.t 19) .skip (.exit 0))) (.seq (.block 1 (.seq (.reg [(.op (some 22) none (.mv (.t 0))), (.op (some 23) none (.mv (.t 9))), (.op (some 24) none (.iad 1
  (.t 22) (.t 23))), (.op (some 25) none (.ld (.t 24))), (.op (some 26) none (.bin .gtr (.t 25) (.c (.int .i64 0))))]) (.cond (.t 26) (.reg [(.op (some 27) none (.mv (.t 9))),
  (.op (some 28) none (.mv (.t 0))), (.op (some 29) none (.mv (.t 9))), (.op (some 30) none (.call 37 [(.t 28), (.t 29)])), (.op (some 31) none (.iada 256 1 (.t 8) (.t 27))),
  (.op none none (.st (.t 31) (.t 30)))]) .skip))) (.reg [(.op (some 20) none (.mv (.t 9))), (.op (some 21) none (.bin .add (.t 20) (.c (.int .i64 1)))), (.op (some 9) none (.mv
  (.t 21)))])))))) (.seq (.reg [(.op (some 32) none (.mv (.t 1))), (.op (some 33) none (.s2b 5 (.t 32))), (.op (some 34) none (.call 38 [(.t 33)])), (.op (some 10) none (.mv
  (.t 34)))]) (.seq (.reg [(.op (some 11) none (.mv (.c (.slice none 0 0))))]) (.seq (.seq (.reg [(.op (some 12) none (.mv (.c (.int .i64 0))))]) (.block 2 (.loop (.seq (.seq
  (.reg [(.op (some 35) none (.mv (.t 12))), (.op (some 36) none (.mv (.t 2))), (.op (some 37) none (.bin .lss (.t 35) (.t 36)))]) (.cond (.t 37) .skip (.exit 2))) (.seq (.block 3
  (.seq (.reg [(.op (some 13) none (.mv (.c (.int .i64 (-1)))))]) (.seq (.seq (.reg [(.op (some 14) none (.mv (.c (.int .i64 0))))]) (.block 4 (.loop (.seq (.seq
  (.reg [(.op (some 40) none (.mv (.t 14))), (.op (some 41) none (.mv (.t 0))), (.op (some 42) none (.lenL (.t 41))), (.op (some 43) none (.bin .lss (.t 40) (.t 42)))]) (.cond
  (.t 43) .skip (.exit 4))) (.seq (.block 5 (.seq (.reg [(.op (some 46) none (.mv (.t 0))), (.op (some 47) none (.mv (.t 14))), (.op (some 48) none (.iad 1 (.t 46) (.t 47))),
  (.op (some 49) none (.ld (.t 48))), (.op (some 50) none (.bin .gtr (.t 49) (.c (.int .i64 0)))), (.op (some 51) none (.mv (.t 50))), (.op (some 52) (some (51, true)) (.mv
  (.t 10))), (.op (some 53) (some (51, true)) (.mv (.t 14))), (.op (some 54) (some (51, true)) (.iada 256 1 (.t 8) (.t 53))), (.op (some 55) (some (51, true)) (.ld (.t 54))),
  (.op (some 56) (some (51, true)) (.call 39 [(.t 52), (.t 55)])), (.op (some 57) none (.pick (.t 51) (.t 56) (.c (.bool false))))]) (.cond (.t 57) (.reg [(.op (some 58) none (.mv
  (.t 14))), (.op (some 13) none (.mv (.t 58)))]) .skip))) (.reg [(.op (some 44) none (.mv (.t 14))), (.op (some 45) none (.bin .add (.t 44) (.c (.int .i64 1)))),
  (.op (some 14) none (.mv (.t 45)))])))))) (.seq (.seq (.reg [(.op (some 59) none (.mv (.t 13))), (.op (some 60) none (.bin .lss (.t 59) (.c (.int .i64 0))))]) (.cond (.t 60)
  (.seq (.reg [(.op (some 6) none (.mv (.c (.slice none 0 0)))), (.op (some 7) none (.mv (.c (.bool false))))]) .ret) .skip)) (.seq (.reg [(.op (some 61) none (.mv (.t 11))),
  (.op (some 62) none (.mv (.t 13))), (.op (some 63) none (.cvt .u8 (.t 62))), (.op (some 64) none (.bsl 5 1 [(.int .u8 0)] [(0, (1, (.t 63)))])), (.op (some 65) none (.app 5 1 1
  (.t 61) (.t 64))), (.op (some 11) none (.mv (.t 65)))]) (.reg [(.op (some 66) none (.mv (.t 10))), (.op (some 67) none (.mv (.t 0))), (.op (some 68) none (.mv (.t 13))),
  (.op (some 69) none (.iad 1 (.t 67) (.t 68))), (.op (some 70) none (.ld (.t 69))), (.op (some 71) none (.slc 3 1 (.t 66) (some (.t 70)) none)), (.op (some 10) none (.mv
  (.t 71)))])))))) (.reg [(.op (some 38) none (.mv (.t 12))), (.op (some 39) none (.bin .add (.t 38) (.c (.int .i64 1)))), (.op (some 12) none (.mv (.t 39)))])))))) (.seq (.seq
  (.reg [(.op (some 15) none (.mv (.c (.int .i64 0))))]) (.block 6 (.loop (.seq (.seq (.reg [(.op (some 72) none (.mv (.t 15))), (.op (some 73) none (.mv (.t 10))),
  (.op (some 74) none (.lenL (.t 73))), (.op (some 75) none (.bin .lss (.t 72) (.t 74)))]) (.cond (.t 75) .skip (.exit 6))) (.seq (.block 7 (.seq (.reg [(.op (some 78) none (.mv
  (.t 10))), (.op (some 79) none (.mv (.t 15))), (.op (some 80) none (.iad 1 (.t 78) (.t 79))), (.op (some 81) none (.ld (.t 80))), (.op (some 82) none (.bin .neq (.t 81) (.c
  (.int .i64 0)))), (.op (some 83) none (.mv (.t 82))), (.op (some 84) (some (83, false)) (.mv (.t 15))), (.op (some 85) (some (83, false)) (.bin .geq (.t 84) (.c
  (.int .i64 7)))), (.op (some 86) none (.pick (.t 83) (.c (.bool true)) (.t 85)))]) (.cond (.t 86) (.seq (.reg [(.op (some 6) none (.mv (.c (.slice none 0 0)))),
  (.op (some 7) none (.mv (.c (.bool false))))]) .ret) .skip))) (.reg [(.op (some 76) none (.mv (.t 15))), (.op (some 77) none (.bin .add (.t 76) (.c (.int .i64 1)))),
  (.op (some 15) none (.mv (.t 77)))])))))) (.seq (.reg [(.op (some 87) none (.mv (.t 11))), (.op (some 6) none (.mv (.t 87))), (.op (some 7) none (.mv (.c
  (.bool true))))]) .ret)))))))), [(.t 6), (.t 7)]⟩
def k21 : KFunc := ⟨28, (.seq (.reg [(.op (some 4) none (.mv (.c (.int .u64 0))))]) (.seq (.reg [(.op (some 5) none (.mv (.c (.int .u64 0))))]) (.seq (.seq
  (.reg [(.op (some 8) none (.mv (.t 0))), (.op (some 9) none (.mv (.t 1))), (.op (some 10) none (.call 40 [(.t 9)])), (.op (some 11) none (.call 24 [(.t 8), (.t 10)])),
  (.op (some 12) none (.s2b 5 (.t 11))), (.op (some 13) none (.lenL (.t 12))), (.op (some 14) none (.mv (.c (.int .i64 0))))]) (.block 0 (.loop (.seq (.reg [(.op (some 15) none
  (.bin .lss (.t 14) (.t 13)))]) (.seq (.cond (.t 15) .skip (.exit 0)) (.seq (.block 1 (.seq (.reg [(.op (some 16) none (.mv (.t 14))), (.op (some 17) none (.iad 1 (.t 12)
  (.t 14))), (.op (some 18) none (.ld (.t 17))), (.op (some 6) none (.mv (.t 16))), (.op (some 7) none (.mv (.t 18)))]) (.reg [(.op (some 19) none (.mv (.t 5))),
  (.op (some 20) none (.mv (.t 7))), (.op (some 21) none (.cvt .u64 (.t 20))), (.op (some 22) none (.mv (.t 6))), (.op (some 23) none (.bin .mul (.c (.int .i64 8)) (.t 22))),
  (.op (some 24) none (.bin .shl (.t 21) (.t 23))), (.op (some 25) none (.bin .or (.t 19) (.t 24))), (.op (some 5) none (.mv (.t 25)))]))) (.reg [(.op (some 26) none (.bin .add
  (.t 14) (.c (.int .i64 1)))), (.op (some 14) none (.mv (.t 26)))]))))))) (.seq (.reg [(.op (some 27) none (.mv (.t 5))), (.op (some 4) none (.mv (.t 27)))]) .ret)))), [(.t 4)]⟩
def k22 : KFunc := ⟨24, (.seq (.reg [(.op (some 4) none (.mv (.c (.int .i64 0))))]) (.seq (.reg [(.op (some 6) none (.mv (.t 0))), (.op (some 7) none (.call 41 [(.t 6)])),
  (.op (some 5) none (.mv (.t 7)))]) (.seq (.seq (.reg [(.op (some 8) none (.mv (.t 0))), (.op (some 9) none (.call 23 [(.t 8)])), (.op (some 10) none (.mv (.t 9))),
  (.op (some 11) (some (10, false)) (.mv (.t 1))), (.op (some 12) (some (10, false)) (.bin .lss (.t 11) (.c (.int .i64 0)))), (.op (some 13) none (.pick (.t 10) (.c (.bool true))
  (.t 12))), (.op (some 14) none (.mv (.t 13))), (.op (some 15) (some (14, false)) (.mv (.t 5))), (.op (some 16) (some (14, false)) (.mv (.t 1))), (.op (some 17) (some (14,
  false)) (.cvt .u64 (.t 16))), (.op (some 18) (some (14, false)) (.bin .gtr (.t 15) (.t 17))), (.op (some 19) none (.pick (.t 14) (.c (.bool true)) (.t 18)))]) (.cond (.t 19)
  (.seq (.reg [(.op (some 20) none (.mv (.t 0))), (.op (some 21) none (.call 42 [(.t 20)]))]) (.seq (.reg [(.op (some 4) none (.mv (.c (.int .i64 0))))]) .ret)) .skip)) (.seq
  (.reg [(.op (some 22) none (.mv (.t 5))), (.op (some 23) none (.cvt .i64 (.t 22))), (.op (some 4) none (.mv (.t 23)))]) .ret)))), [(.t 4)]⟩
def k23 : KFunc := ⟨11, (.seq (.reg [(.op (some 2) none (.mv (.c (.bool false))))]) (.seq (.reg [(.op (some 3) none (.mv (.t 0))), (.op (some 4) none (.eqv .ptr false (.t 3) (.c
  (.pointer none)))), (.op (some 5) none (.mv (.t 4))), (.op (some 6) (some (5, false)) (.mv (.t 0))), (.op (some 7) (some (5, false)) (.nck (.t 6))), (.op (some 8) (some (5,
  false)) (.fad 1 (.t 7))), (.op (some 9) (some (5, false)) (.ld (.t 8))), (.op (some 10) none (.pick (.t 5) (.c (.bool true)) (.t 9))), (.op (some 2) none (.mv
  (.t 10)))]) .ret)), [(.t 2)]⟩
def k24 : KFunc := ⟨37, (.seq (.reg [(.op (some 4) none (.mv (.c (.string (bs [])))))]) (.seq (.reg [(.op (some 6) none (.mv (.t 1))), (.op (some 7) none (.mx (.t 6) [(.c
  (.int .i64 0))])), (.op (some 1) none (.mv (.t 7)))]) (.seq (.seq (.reg [(.op (some 8) none (.mv (.t 0))), (.op (some 9) none (.call 23 [(.t 8)])), (.op (some 10) none (.mv
  (.t 9))), (.op (some 11) (some (10, false)) (.mv (.t 0))), (.op (some 12) (some (10, false)) (.nck (.t 11))), (.op (some 13) (some (10, false)) (.fad 0 (.t 12))),
  (.op (some 14) (some (10, false)) (.ld (.t 13))), (.op (some 15) (some (10, false)) (.lenS (.t 14))), (.op (some 16) (some (10, false)) (.mv (.t 1))), (.op (some 17) (some (10,
  false)) (.bin .lss (.t 15) (.t 16))), (.op (some 18) none (.pick (.t 10) (.c (.bool true)) (.t 17)))]) (.cond (.t 18) (.seq (.reg [(.op (some 19) none (.mv (.t 0))),
  (.op (some 20) none (.call 42 [(.t 19)]))]) (.seq (.reg [(.op (some 4) none (.mv (.c (.string (bs [])))))]) .ret)) .skip)) (.seq (.reg [(.op (some 21) none (.mv (.t 0))),
  (.op (some 22) none (.nck (.t 21))), (.op (some 23) none (.fad 0 (.t 22))), (.op (some 24) none (.ld (.t 23))), (.op (some 25) none (.mv (.t 1))), (.op (some 26) none (.slS
  (.t 24) none (some (.t 25)))), (.op (some 5) none (.mv (.t 26)))]) (.seq (.reg [(.op (some 27) none (.mv (.t 0))), (.op (some 28) none (.mv (.t 0))), (.op (some 29) none (.nck
  (.t 28))), (.op (some 30) none (.fad 0 (.t 29))), (.op (some 31) none (.ld (.t 30))), (.op (some 32) none (.mv (.t 1))), (.op (some 33) none (.slS (.t 31) (some (.t 32)) none)),
  (.op (some 34) none (.nck (.t 27))), (.op (some 35) none (.fad 0 (.t 34))), (.op none none (.st (.t 35) (.t 33)))]) (.seq (.reg [(.op (some 36) none (.mv (.t 5))),
  (.op (some 4) none (.mv (.t 36)))]) .ret)))))), [(.t 4)]⟩
def k26 : KFunc := ⟨31, (.seq (.reg [(.op (some 4) none (.mv (.c (.string (bs []))))), (.op (some 5) none (.mv (.c (.bool false))))]) (.seq (.reg [(.op (some 11) none (.mv
  (.t 0))), (.op (some 12) none (.call 49 [(.t 11)])), (.op (some 10) none (.mv (.t 12))), (.op (some 13) none (.xt (.t 10) 0)), (.op (some 14) none (.xt (.t 10) 1)),
  (.op (some 6) none (.mv (.t 13))), (.op (some 7) none (.mv (.t 14)))]) (.seq (.seq (.reg [(.op (some 15) none (.mv (.t 7))), (.op (some 16) none (.un .not (.t 15)))]) (.cond
  (.t 16) (.seq (.reg [(.op (some 4) none (.mv (.c (.string (bs []))))), (.op (some 5) none (.mv (.c (.bool false))))]) .ret) .skip)) (.seq (.reg [(.op (some 17) none (.mv
  (.t 0))), (.op (some 18) none (.call 50 [(.t 17), (.c (.int .i64 1048576))])), (.op (some 8) none (.mv (.t 18)))]) (.seq (.seq (.reg [(.op (some 19) none (.mv (.t 0))),
  (.op (some 20) none (.call 23 [(.t 19)]))]) (.cond (.t 20) (.seq (.reg [(.op (some 4) none (.mv (.c (.string (bs []))))), (.op (some 5) none (.mv (.c
  (.bool false))))]) .ret) .skip)) (.seq (.reg [(.op (some 22) none (.mv (.t 6))), (.op (some 23) none (.mv (.t 8))), (.op (some 24) none (.mv (.t 1))), (.op (some 25) none
  (.call 51 [(.t 22), (.t 23), (.t 24)])), (.op (some 21) none (.mv (.t 25))), (.op (some 26) none (.xt (.t 21) 0)), (.op (some 27) none (.xt (.t 21) 1)), (.op (some 9) none (.mv
  (.t 26))), (.op (some 7) none (.mv (.t 27)))]) (.seq (.reg [(.op (some 28) none (.mv (.t 9))), (.op (some 29) none (.b2s 5 (.t 28))), (.op (some 30) none (.mv (.t 7))),
  (.op (some 4) none (.mv (.t 29))), (.op (some 5) none (.mv (.t 30)))]) .ret))))))), [(.t 4), (.t 5)]⟩
def k27 : KFunc := ⟨22, (.seq (.reg [(.op (some 2) none (.mv (.c (.string (bs [])))))]) (.seq (.reg [(.op (some 3) none (.mv (.c (.string (bs [])))))]) (.seq (.block 0 (.loop
  (.seq (.seq (.reg [(.op (some 4) none (.mv (.t 0))), (.op (some 5) none (.bin .geq (.t 4) (.c (.int .u64 128))))]) (.cond (.t 5) .skip (.exit 0))) (.block 1 (.seq
  (.reg [(.op (some 6) none (.mv (.t 3))), (.op (some 7) none (.mv (.t 0))), (.op (some 8) none (.bin .rem (.t 7) (.c (.int .u64 128)))), (.op (some 9) none (.bin .add (.t 8) (.c
  (.int .u64 128)))), (.op (some 10) none (.cvt .u8 (.t 9))), (.op (some 11) none (.bsl 5 1 [(.int .u8 0)] [(0, (1, (.t 10)))])), (.op (some 12) none (.b2s 5 (.t 11))),
  (.op (some 13) none (.bin .add (.t 6) (.t 12))), (.op (some 3) none (.mv (.t 13)))]) (.reg [(.op (some 14) none (.mv (.t 0))), (.op (some 15) none (.bin .quo (.t 14) (.c
  (.int .u64 128)))), (.op (some 0) none (.mv (.t 15)))])))))) (.seq (.reg [(.op (some 16) none (.mv (.t 3))), (.op (some 17) none (.mv (.t 0))), (.op (some 18) none (.cvt .u8
  (.t 17))), (.op (some 19) none (.bsl 5 1 [(.int .u8 0)] [(0, (1, (.t 18)))])), (.op (some 20) none (.b2s 5 (.t 19))), (.op (some 21) none (.bin .add (.t 16) (.t 20))),
  (.op (some 2) none (.mv (.t 21)))]) .ret)))), [(.t 2)]⟩
def k28 : KFunc := ⟨28, (.seq (.reg [(.op (some 6) none (.mv (.c (.pointer none))))]) (.seq (.seq (.reg [(.op (some 7) none (.mv (.t 0))), (.op (some 8) none (.eqv .ptr false
  (.t 7) (.c (.pointer none))))]) (.cond (.t 8) (.seq (.reg [(.op (some 6) none (.mv (.c (.pointer none))))]) .ret) .skip)) (.seq (.seq (.reg [(.op (some 9) none (.mv (.t 2))),
  (.op (some 10) none (.call 40 [(.t 9)])), (.op (some 11) none (.mv (.c (.int .i64 0))))]) (.block 0 (.loop (.seq (.reg [(.op (some 12) none (.bin .lss (.t 11) (.t 10)))]) (.seq
  (.cond (.t 12) .skip (.exit 0)) (.seq (.block 1 (.seq (.reg [(.op (some 13) none (.mv (.t 0))), (.op (some 14) none (.mv (.t 0))), (.op (some 15) none (.nck (.t 14))),
  (.op (some 16) none (.fad 0 (.t 15))), (.op (some 17) none (.ld (.t 16))), (.op (some 18) none (.mv (.t 1))), (.op (some 19) none (.cvt .u8 (.t 18))), (.op (some 20) none
  (.bsl 5 1 [(.int .u8 0)] [(0, (1, (.t 19)))])), (.op (some 21) none (.app 5 1 1 (.t 17) (.t 20))), (.op (some 22) none (.nck (.t 13))), (.op (some 23) none (.fad 0 (.t 22))),
  (.op none none (.st (.t 23) (.t 21)))]) (.reg [(.op (some 24) none (.mv (.t 1))), (.op (some 25) none (.bin .shr (.t 24) (.c (.int .u64 8)))), (.op (some 1) none (.mv
  (.t 25)))]))) (.reg [(.op (some 26) none (.bin .add (.t 11) (.c (.int .i64 1)))), (.op (some 11) none (.mv (.t 26)))]))))))) (.seq (.reg [(.op (some 27) none (.mv (.t 0))),
  (.op (some 6) none (.mv (.t 27)))]) .ret)))), [(.t 6)]⟩
def k29 : KFunc := ⟨35, (.seq (.reg [(.op (some 4) none (.mv (.c (.pointer none))))]) (.seq (.seq (.reg [(.op (some 5) none (.mv (.t 0))), (.op (some 6) none (.eqv .ptr false
  (.t 5) (.c (.pointer none))))]) (.cond (.t 6) (.seq (.reg [(.op (some 4) none (.mv (.c (.pointer none))))]) .ret) .skip)) (.seq (.block 0 (.loop (.seq (.seq
  (.reg [(.op (some 7) none (.mv (.t 1))), (.op (some 8) none (.bin .gtr (.t 7) (.c (.int .u64 127))))]) (.cond (.t 8) .skip (.exit 0))) (.block 1 (.seq (.reg [(.op (some 9) none
  (.mv (.t 0))), (.op (some 10) none (.mv (.t 0))), (.op (some 11) none (.nck (.t 10))), (.op (some 12) none (.fad 0 (.t 11))), (.op (some 13) none (.ld (.t 12))),
  (.op (some 14) none (.mv (.t 1))), (.op (some 15) none (.cvt .u8 (.t 14))), (.op (some 16) none (.bin .or (.t 15) (.c (.int .u8 128)))), (.op (some 17) none
  (.bsl 5 1 [(.int .u8 0)] [(0, (1, (.t 16)))])), (.op (some 18) none (.app 5 1 1 (.t 13) (.t 17))), (.op (some 19) none (.nck (.t 9))), (.op (some 20) none (.fad 0 (.t 19))),
  (.op none none (.st (.t 20) (.t 18)))]) (.reg [(.op (some 21) none (.mv (.t 1))), (.op (some 22) none (.bin .shr (.t 21) (.c (.int .u64 7)))), (.op (some 1) none (.mv
  (.t 22)))])))))) (.seq (.reg [(.op (some 23) none (.mv (.t 0))), (.op (some 24) none (.mv (.t 0))), (.op (some 25) none (.nck (.t 24))), (.op (some 26) none (.fad 0 (.t 25))),
  (.op (some 27) none (.ld (.t 26))), (.op (some 28) none (.mv (.t 1))), (.op (some 29) none (.cvt .u8 (.t 28))), (.op (some 30) none (.bsl 5 1 [(.int .u8 0)] [(0, (1,
  (.t 29)))])), (.op (some 31) none (.app 5 1 1 (.t 27) (.t 30))), (.op (some 32) none (.nck (.t 23))), (.op (some 33) none (.fad 0 (.t 32))), (.op none none (.st (.t 33)
  (.t 31)))]) (.seq (.reg [(.op (some 34) none (.mv (.t 0))), (.op (some 4) none (.mv (.t 34)))]) .ret))))), [(.t 4)]⟩
def k34 : KFunc := ⟨12, (.seq (.reg [(.op (some 4) none (.mv (.c (.pointer none))))]) (.seq (.reg [(.op (some 5) none (.mv (.t 0))), (.op (some 6) none (.mv (.t 1))),
  (.op (some 7) none (.lenS (.t 6))), (.op (some 8) none (.cvt .u64 (.t 7))), (.op (some 9) none (.call 29 [(.t 5), (.t 8)])), (.op (some 10) none (.mv (.t 1))),
  (.op (some 11) none (.call 15 [(.t 9), (.t 10)])), (.op (some 4) none (.mv (.t 11)))]) .ret)), [(.t 4)]⟩
def k35 : KFunc := ⟨40, (.seq (.reg [(.op (some 2) none (.mv (.c (.bool false))))]) (.seq (.seq (.reg [(.op (some 6) none (.mv (.t 0))), (.op (some 7) none (.call 63 [(.t 6)])),
  (.op (some 8) none (.un .not (.t 7)))]) (.cond (.t 8) (.seq (.reg [(.op (some 2) none (.mv (.c (.bool false))))]) .ret) .skip)) (.seq (.reg [(.op (some 3) none (.mv (.c
  (.int .i64 0))))]) (.seq (.reg [(.op (some 4) none (.mv (.c (.int .i64 0))))]) (.seq (.seq (.reg [(.op (some 5) none (.mv (.c (.int .i64 0))))]) (.block 0 (.loop (.seq (.seq
  (.reg [(.op (some 9) none (.mv (.t 5))), (.op (some 10) none (.mv (.t 0))), (.op (some 11) none (.lenL (.t 10))), (.op (some 12) none (.bin .lss (.t 9) (.t 11)))]) (.cond
  (.t 12) .skip (.exit 0))) (.seq (.block 1 (.seq (.reg [(.op (some 15) none (.mv (.t 0))), (.op (some 16) none (.mv (.t 5))), (.op (some 17) none (.iad 1 (.t 15) (.t 16))),
  (.op (some 18) none (.ld (.t 17))), (.op (some 19) none (.bin .gtr (.t 18) (.c (.int .i64 0))))]) (.cond (.t 19) (.seq (.reg [(.op (some 20) none (.mv (.t 3))),
  (.op (some 21) none (.mv (.t 0))), (.op (some 22) none (.mv (.t 5))), (.op (some 23) none (.iad 1 (.t 21) (.t 22))), (.op (some 24) none (.ld (.t 23))), (.op (some 25) none
  (.bin .sub (.c (.int .i64 11)) (.t 24))), (.op (some 26) none (.call 64 [(.t 25)])), (.op (some 27) none (.bin .add (.t 20) (.t 26))), (.op (some 3) none (.mv (.t 27)))])
  (.reg [(.op (some 28) none (.mv (.t 4))), (.op (some 29) none (.bin .add (.t 28) (.c (.int .i64 1)))), (.op (some 4) none (.mv (.t 29)))])) .skip))) (.reg [(.op (some 13) none
  (.mv (.t 5))), (.op (some 14) none (.bin .add (.t 13) (.c (.int .i64 1)))), (.op (some 5) none (.mv (.t 14)))])))))) (.seq (.reg [(.op (some 30) none (.mv (.t 3))),
  (.op (some 31) none (.bin .eql (.t 30) (.c (.int .i64 2048)))), (.op (some 32) none (.mv (.t 31))), (.op (some 33) (some (32, false)) (.mv (.t 4))), (.op (some 34) (some (32,
  false)) (.bin .eql (.t 33) (.c (.int .i64 1)))), (.op (some 35) (some (32, false)) (.mv (.t 34))), (.op (some 36) (some (35, true)) (.mv (.t 3))), (.op (some 37) (some (35,
  true)) (.bin .eql (.t 36) (.c (.int .i64 1024)))), (.op (some 38) (some (32, false)) (.pick (.t 35) (.t 37) (.c (.bool false)))), (.op (some 39) none (.pick (.t 32) (.c
  (.bool true)) (.t 38))), (.op (some 2) none (.mv (.t 39)))]) .ret)))))), [(.t 2)]⟩
def k37 : KFunc := ⟨31, (.seq (.reg [(.op (some 4) none (.mv (.c (.slice none 0 0))))]) (.seq (.reg [(.op (some 5) none (.mv (.c (.slice none 0 0))))]) (.seq
  (.reg [(.op (some 8) none (.mv (.t 0))), (.op (some 9) none (.call 66 [(.t 8)])), (.op (some 10) none (.mv (.t 1))), (.op (some 11) none (.iad 1 (.t 9) (.t 10))),
  (.op (some 12) none (.ld (.t 11))), (.op (some 6) none (.mv (.t 12)))]) (.seq (.seq (.reg [(.op (some 13) none (.mv (.t 0))), (.op (some 14) none (.mv (.t 1))),
  (.op (some 15) none (.iad 1 (.t 13) (.t 14))), (.op (some 16) none (.ld (.t 15))), (.op (some 17) none (.bin .sub (.t 16) (.c (.int .i64 1)))), (.op (some 7) none (.mv
  (.t 17)))]) (.block 0 (.loop (.seq (.seq (.reg [(.op (some 18) none (.mv (.t 7))), (.op (some 19) none (.bin .geq (.t 18) (.c (.int .i64 0))))]) (.cond (.t 19) .skip (.exit 0)))
  (.seq (.block 1 (.reg [(.op (some 22) none (.mv (.t 5))), (.op (some 23) none (.mv (.t 6))), (.op (some 24) none (.mv (.t 7))), (.op (some 25) none (.call 64 [(.t 24)])),
  (.op (some 26) none (.bin .quo (.t 23) (.t 25))), (.op (some 27) none (.bin .rem (.t 26) (.c (.int .i64 2)))), (.op (some 28) none (.bsl 3 1 [(.int .i64 0)] [(0, (1,
  (.t 27)))])), (.op (some 29) none (.app 3 1 8 (.t 22) (.t 28))), (.op (some 5) none (.mv (.t 29)))])) (.reg [(.op (some 20) none (.mv (.t 7))), (.op (some 21) none (.bin .sub
  (.t 20) (.c (.int .i64 1)))), (.op (some 7) none (.mv (.t 21)))])))))) (.seq (.reg [(.op (some 30) none (.mv (.t 5))), (.op (some 4) none (.mv (.t 30)))]) .ret))))), [(.t 4)]⟩
def k38 : KFunc := ⟨20, (.seq (.reg [(.op (some 2) none (.mv (.c (.slice none 0 0))))]) (.seq (.reg [(.op (some 3) none (.mv (.c (.slice none 0 0))))]) (.seq (.seq
  (.reg [(.op (some 4) none (.mv (.c (.int .i64 0))))]) (.block 0 (.loop (.seq (.seq (.reg [(.op (some 5) none (.mv (.t 4))), (.op (some 6) none (.mv (.t 0))), (.op (some 7) none
  (.lenL (.t 6))), (.op (some 8) none (.bin .lss (.t 5) (.t 7)))]) (.cond (.t 8) .skip (.exit 0))) (.seq (.block 1 (.reg [(.op (some 11) none (.mv (.t 3))), (.op (some 12) none
  (.mv (.t 0))), (.op (some 13) none (.mv (.t 4))), (.op (some 14) none (.iad 1 (.t 12) (.t 13))), (.op (some 15) none (.ld (.t 14))), (.op (some 16) none (.cvt .u32 (.t 15))),
  (.op (some 17) none (.call 67 [(.t 16), (.c (.int .i64 8))])), (.op (some 18) none (.app 3 1 8 (.t 11) (.t 17))), (.op (some 3) none (.mv (.t 18)))])) (.reg [(.op (some 9) none
  (.mv (.t 4))), (.op (some 10) none (.bin .add (.t 9) (.c (.int .i64 1)))), (.op (some 4) none (.mv (.t 10)))])))))) (.seq (.reg [(.op (some 19) none (.mv (.t 3))),
  (.op (some 2) none (.mv (.t 19)))]) .ret)))), [(.t 2)]⟩
def k39 : KFunc := ⟨26, (.seq (.reg [(.op (some 4) none (.mv (.c (.bool false))))]) (.seq (.seq (.reg [(.op (some 6) none (.mv (.t 0))), (.op (some 7) none (.lenL (.t 6))),
  (.op (some 8) none (.mv (.t 1))), (.op (some 9) none (.lenL (.t 8))), (.op (some 10) none (.bin .lss (.t 7) (.t 9)))]) (.cond (.t 10) (.seq (.reg [(.op (some 4) none (.mv (.c
  (.bool false))))]) .ret) .skip)) (.seq (.seq (.reg [(.op (some 5) none (.mv (.c (.int .i64 0))))]) (.block 0 (.loop (.seq (.seq (.reg [(.op (some 11) none (.mv (.t 5))),
  (.op (some 12) none (.mv (.t 1))), (.op (some 13) none (.lenL (.t 12))), (.op (some 14) none (.bin .lss (.t 11) (.t 13)))]) (.cond (.t 14) .skip (.exit 0))) (.seq (.block 1
  (.seq (.reg [(.op (some 17) none (.mv (.t 0))), (.op (some 18) none (.mv (.t 5))), (.op (some 19) none (.iad 1 (.t 17) (.t 18))), (.op (some 20) none (.ld (.t 19))),
  (.op (some 21) none (.mv (.t 1))), (.op (some 22) none (.mv (.t 5))), (.op (some 23) none (.iad 1 (.t 21) (.t 22))), (.op (some 24) none (.ld (.t 23))), (.op (some 25) none
  (.bin .neq (.t 20) (.t 24)))]) (.cond (.t 25) (.seq (.reg [(.op (some 4) none (.mv (.c (.bool false))))]) .ret) .skip))) (.reg [(.op (some 15) none (.mv (.t 5))),
  (.op (some 16) none (.bin .add (.t 15) (.c (.int .i64 1)))), (.op (some 5) none (.mv (.t 16)))])))))) (.seq (.reg [(.op (some 4) none (.mv (.c (.bool true))))]) .ret)))),
  [(.t 4)]⟩
def k40 : KFunc := ⟨6, (.seq (.reg [(.op (some 2) none (.mv (.c (.int .i64 0))))]) (.seq (.reg [(.op (some 3) none (.mv (.t 0))), (.op (some 4) none (.mx (.t 3) [(.c
  (.int .i64 0))])), (.op (some 5) none (.mn (.t 4) [(.c (.int .i64 8))])), (.op (some 2) none (.mv (.t 5)))]) .ret)), [(.t 2)]⟩
def k41 : KFunc := ⟨44, (.seq (.reg [(.op (some 2) none (.mv (.c (.int .u64 0))))]) (.seq (.reg [(.op (some 3) none (.mv (.c (.int .u64 0))))]) (.seq (.seq
  (.reg [(.op (some 7) none (.mv (.c (.int .i64 0))))]) (.block 0 (.loop (.seq (.reg [(.op (some 8) none (.bin .lss (.t 7) (.c (.int .i64 10))))]) (.seq (.cond (.t 8) .skip
  (.exit 0)) (.seq (.block 1 (.seq (.reg [(.op (some 9) none (.mv (.t 7))), (.op (some 4) none (.mv (.t 9)))]) (.seq (.reg [(.op (some 10) none (.mv (.t 0))), (.op (some 11) none
  (.call 24 [(.t 10), (.c (.int .i64 1))])), (.op (some 5) none (.mv (.t 11)))]) (.seq (.seq (.reg [(.op (some 12) none (.mv (.t 5))), (.op (some 13) none (.bin .eql (.t 12) (.c
  (.string (bs [])))))]) (.cond (.t 13) (.seq (.reg [(.op (some 2) none (.mv (.c (.int .u64 0))))]) .ret) .skip)) (.seq (.reg [(.op (some 14) none (.mv (.t 5))),
  (.op (some 15) none (.idS (.t 14) (.c (.int .i64 0)))), (.op (some 16) none (.cvt .u64 (.t 15))), (.op (some 6) none (.mv (.t 16)))]) (.seq (.seq (.reg [(.op (some 17) none (.mv
  (.t 4))), (.op (some 18) none (.bin .eql (.t 17) (.c (.int .i64 9)))), (.op (some 19) none (.mv (.t 18))), (.op (some 20) (some (19, true)) (.mv (.t 6))),
  (.op (some 21) (some (19, true)) (.bin .gtr (.t 20) (.c (.int .u64 1)))), (.op (some 22) none (.pick (.t 19) (.t 21) (.c (.bool false)))), (.op (some 23) none (.mv (.t 22))),
  (.op (some 24) (some (23, false)) (.mv (.t 4))), (.op (some 25) (some (23, false)) (.bin .gtr (.t 24) (.c (.int .i64 0)))), (.op (some 26) (some (23, false)) (.mv (.t 25))),
  (.op (some 27) (some (26, true)) (.mv (.t 6))), (.op (some 28) (some (26, true)) (.bin .eql (.t 27) (.c (.int .u64 0)))), (.op (some 29) (some (23, false)) (.pick (.t 26)
  (.t 28) (.c (.bool false)))), (.op (some 30) none (.pick (.t 23) (.c (.bool true)) (.t 29)))]) (.cond (.t 30) (.exit 0) .skip)) (.seq (.reg [(.op (some 31) none (.mv (.t 3))),
  (.op (some 32) none (.mv (.t 6))), (.op (some 33) none (.bin .and (.t 32) (.c (.int .u64 127)))), (.op (some 34) none (.mv (.t 4))), (.op (some 35) none (.bin .mul (.c
  (.int .i64 7)) (.t 34))), (.op (some 36) none (.bin .shl (.t 33) (.t 35))), (.op (some 37) none (.bin .or (.t 31) (.t 36))), (.op (some 3) none (.mv (.t 37)))]) (.seq
  (.reg [(.op (some 38) none (.mv (.t 6))), (.op (some 39) none (.bin .lss (.t 38) (.c (.int .u64 128))))]) (.cond (.t 39) (.seq (.reg [(.op (some 40) none (.mv (.t 3))),
  (.op (some 2) none (.mv (.t 40)))]) .ret) .skip))))))))) (.reg [(.op (some 41) none (.bin .add (.t 7) (.c (.int .i64 1)))), (.op (some 7) none (.mv (.t 41)))]))))))) (.seq
  (.reg [(.op (some 42) none (.mv (.t 0))), (.op (some 43) none (.call 42 [(.t 42)]))]) (.seq (.reg [(.op (some 2) none (.mv (.c (.int .u64 0))))]) .ret))))), [(.t 2)]⟩
def k42 : KFunc := ⟨10, (.seq (.reg [(.op (some 2) none (.mv (.t 0))), (.op (some 3) none (.eqv .ptr true (.t 2) (.c (.pointer none))))]) (.cond (.t 3) (.reg [(.op (some 4) none
  (.mv (.t 0))), (.op (some 5) none (.mv (.t 0))), (.op (some 6) none (.nck (.t 4))), (.op (some 7) none (.fad 0 (.t 6))), (.op none none (.st (.t 7) (.c (.string (bs []))))),
  (.op (some 8) none (.nck (.t 5))), (.op (some 9) none (.fad 1 (.t 8))), (.op none none (.st (.t 9) (.c (.bool true))))]) .skip)), []⟩
def k49 : KFunc := ⟨69, (.seq (.reg [(.op (some 2) none (.mv (.c (.slice none 0 0)))), (.op (some 3) none (.mv (.c (.bool false))))]) (.seq (.reg [(.op (some 9) none (.mv
  (.t 0))), (.op (some 10) none (.call 21 [(.t 9), (.c (.int .i64 1))])), (.op (some 11) none (.cvt .i64 (.t 10))), (.op (some 12) none (.bin .add (.t 11) (.c (.int .i64 1)))),
  (.op (some 4) none (.mv (.t 12)))]) (.seq (.reg [(.op (some 13) none (.mv (.t 0))), (.op (some 14) none (.mv (.t 4))), (.op (some 15) none (.bin .add (.t 14) (.c
  (.int .i64 1)))), (.op (some 16) none (.bin .quo (.t 15) (.c (.int .i64 2)))), (.op (some 17) none (.call 24 [(.t 13), (.t 16)])), (.op (some 5) none (.mv (.t 17)))]) (.seq
  (.seq (.reg [(.op (some 18) none (.mv (.t 0))), (.op (some 19) none (.call 23 [(.t 18)]))]) (.cond (.t 19) (.seq (.reg [(.op (some 2) none (.mv (.c (.slice none 0 0)))),
  (.op (some 3) none (.mv (.c (.bool false))))]) .ret) .skip)) (.seq (.reg [(.op (some 20) none (.mv (.t 4))), (.op (some 21) none (.bin .add (.t 20) (.c (.int .i64 1)))),
  (.op (some 22) none (.mks 3 [(.int .i64 0)] 8 (.c (.int .i64 0)) (.t 21))), (.op (some 6) none (.mv (.t 22)))]) (.seq (.seq (.reg [(.op (some 23) none (.mv (.t 5))),
  (.op (some 24) none (.s2b 5 (.t 23))), (.op (some 25) none (.lenL (.t 24))), (.op (some 26) none (.mv (.c (.int .i64 0))))]) (.block 0 (.loop (.seq (.reg [(.op (some 27) none
  (.bin .lss (.t 26) (.t 25)))]) (.seq (.cond (.t 27) .skip (.exit 0)) (.seq (.block 1 (.seq (.reg [(.op (some 28) none (.iad 1 (.t 24) (.t 26))), (.op (some 29) none (.ld
  (.t 28))), (.op (some 8) none (.mv (.t 29)))]) (.reg [(.op (some 30) none (.mv (.t 6))), (.op (some 31) none (.mv (.t 8))), (.op (some 32) none (.bin .and (.t 31) (.c
  (.int .u8 15)))), (.op (some 33) none (.cvt .i64 (.t 32))), (.op (some 34) none (.mv (.t 8))), (.op (some 35) none (.bin .shr (.t 34) (.c (.int .u64 4)))), (.op (some 36) none
  (.cvt .i64 (.t 35))), (.op (some 37) none (.bsl 3 2 [(.int .i64 0), (.int .i64 0)] [(0, (1, (.t 33))), (1, (1, (.t 36)))])), (.op (some 38) none (.app 3 1 8 (.t 30) (.t 37))),
  (.op (some 6) none (.mv (.t 38)))]))) (.reg [(.op (some 39) none (.bin .add (.t 26) (.c (.int .i64 1)))), (.op (some 26) none (.mv (.t 39)))]))))))) (.seq (.seq
  (.reg [(.op (some 40) none (.mv (.t 6))), (.op (some 41) none (.lenL (.t 40))), (.op (some 42) none (.mv (.t 4))), (.op (some 43) none (.bin .gtr (.t 41) (.t 42))),
  (.op (some 44) none (.mv (.t 43))), (.op (some 45) (some (44, true)) (.mv (.t 6))), (.op (some 46) (some (44, true)) (.mv (.t 4))), (.op (some 47) (some (44, true)) (.iad 1
  (.t 45) (.t 46))), (.op (some 48) (some (44, true)) (.ld (.t 47))), (.op (some 49) (some (44, true)) (.bin .neq (.t 48) (.c (.int .i64 0)))), (.op (some 50) none (.pick (.t 44)
  (.t 49) (.c (.bool false)))), (.op (some 51) none (.mv (.t 50))), (.op (some 52) (some (51, false)) (.mv (.t 6))), (.op (some 53) (some (51, false)) (.mv (.t 4))),
  (.op (some 54) (some (51, false)) (.bin .sub (.t 53) (.c (.int .i64 1)))), (.op (some 55) (some (51, false)) (.iad 1 (.t 52) (.t 54))), (.op (some 56) (some (51, false)) (.ld
  (.t 55))), (.op (some 57) (some (51, false)) (.bin .eql (.t 56) (.c (.int .i64 0)))), (.op (some 58) none (.pick (.t 51) (.c (.bool true)) (.t 57))), (.op (some 59) none (.mv
  (.t 58))), (.op (some 60) (some (59, false)) (.mv (.t 6))), (.op (some 61) (some (59, false)) (.mv (.t 4))), (.op (some 62) (some (59, false)) (.slc 3 1 (.t 60) none (some
  (.t 61)))), (.op (some 63) (some (59, false)) (.call 57 [(.t 62)])), (.op (some 64) (some (59, false)) (.un .not (.t 63))), (.op (some 65) none (.pick (.t 59) (.c (.bool true))
  (.t 64)))]) (.cond (.t 65) (.seq (.reg [(.op (some 2) none (.mv (.c (.slice none 0 0)))), (.op (some 3) none (.mv (.c (.bool false))))]) .ret) .skip)) (.seq
  (.reg [(.op (some 66) none (.mv (.t 6))), (.op (some 67) none (.mv (.t 4))), (.op (some 68) none (.slc 3 1 (.t 66) none (some (.t 67)))), (.op (some 2) none (.mv (.t 68))),
  (.op (some 3) none (.mv (.c (.bool true))))]) .ret)))))))), [(.t 2), (.t 3)]⟩
def k50 : KFunc := ⟨10, (.seq (.reg [(.op (some 4) none (.mv (.c (.string (bs [])))))]) (.seq (.reg [(.op (some 5) none (.mv (.t 0))), (.op (some 6) none (.mv (.t 0))),
  (.op (some 7) none (.mv (.t 1))), (.op (some 8) none (.call 22 [(.t 6), (.t 7)])), (.op (some 9) none (.call 24 [(.t 5), (.t 8)])), (.op (some 4) none (.mv (.t 9)))]) .ret)),
  [(.t 4)]⟩
def k32 : KFunc := ⟨49, (.seq (.reg [(.op (some 2) none (.mv (.c (.string (bs []))))), (.op (some 3) none (.mv (.c (.bool false))))]) (.seq (.seq (.reg [(.op (some 8) none (.mv
  (.t 0))), (.op (some 9) none (.call 57 [(.t 8)])), (.op (some 10) none (.un .not (.t 9)))]) (.cond (.t 10) (.seq (.reg [(.op (some 2) none (.mv (.c (.string (bs []))))),
  (.op (some 3) none (.mv (.c (.bool false))))]) .ret) .skip)) (.seq (.reg [(.op (some 11) none (.mv (.t 0))), (.op (some 12) none (.call 58 [(.t 11)])), (.op (some 4) none (.mv
  (.t 12)))]) (.seq (.reg [(.op (some 13) none (.mv (.t 4))), (.op (some 14) none (.lenL (.t 13))), (.op (some 15) none (.bin .sub (.t 14) (.c (.int .i64 1)))),
  (.op (some 16) none (.cvt .u8 (.t 15))), (.op (some 17) none (.bsl 5 1 [(.int .u8 0)] [(0, (1, (.t 16)))])), (.op (some 5) none (.mv (.t 17)))]) (.seq (.seq
  (.reg [(.op (some 6) none (.mv (.c (.int .i64 0))))]) (.block 0 (.loop (.seq (.seq (.reg [(.op (some 18) none (.mv (.t 6))), (.op (some 19) none (.mv (.t 4))),
  (.op (some 20) none (.lenL (.t 19))), (.op (some 21) none (.bin .lss (.t 18) (.t 20)))]) (.cond (.t 21) .skip (.exit 0))) (.seq (.block 1 (.seq (.reg [(.op (some 24) none (.mv
  (.t 4))), (.op (some 25) none (.mv (.t 6))), (.op (some 26) none (.iad 1 (.t 24) (.t 25))), (.op (some 27) none (.ld (.t 26))), (.op (some 28) none (.cvt .u8 (.t 27))),
  (.op (some 7) none (.mv (.t 28)))]) (.seq (.seq (.reg [(.op (some 29) none (.mv (.t 6))), (.op (some 30) none (.bin .add (.t 29) (.c (.int .i64 1)))), (.op (some 31) none (.mv
  (.t 4))), (.op (some 32) none (.lenL (.t 31))), (.op (some 33) none (.bin .lss (.t 30) (.t 32)))]) (.cond (.t 33) (.reg [(.op (some 34) none (.mv (.t 7))), (.op (some 35) none
  (.mv (.t 4))), (.op (some 36) none (.mv (.t 6))), (.op (some 37) none (.bin .add (.t 36) (.c (.int .i64 1)))), (.op (some 38) none (.iad 1 (.t 35) (.t 37))), (.op (some 39) none
  (.ld (.t 38))), (.op (some 40) none (.cvt .u8 (.t 39))), (.op (some 41) none (.bin .shl (.t 40) (.c (.int .u64 4)))), (.op (some 42) none (.bin .or (.t 34) (.t 41))),
  (.op (some 7) none (.mv (.t 42)))]) .skip)) (.reg [(.op (some 43) none (.mv (.t 5))), (.op (some 44) none (.mv (.t 7))), (.op (some 45) none (.bsl 5 1 [(.int .u8 0)] [(0, (1,
  (.t 44)))])), (.op (some 46) none (.app 5 1 1 (.t 43) (.t 45))), (.op (some 5) none (.mv (.t 46)))])))) (.reg [(.op (some 22) none (.mv (.t 6))), (.op (some 23) none (.bin .add
  (.t 22) (.c (.int .i64 2)))), (.op (some 6) none (.mv (.t 23)))])))))) (.seq (.reg [(.op (some 47) none (.mv (.t 5))), (.op (some 48) none (.b2s 5 (.t 47))), (.op (some 2) none
  (.mv (.t 48))), (.op (some 3) none (.mv (.c (.bool true))))]) .ret)))))), [(.t 2), (.t 3)]⟩
def k33 : KFunc := ⟨53, (.seq (.reg [(.op (some 4) none (.mv (.c (.string (bs []))))), (.op (some 5) none (.mv (.c (.bool false))))]) (.seq (.reg [(.op (some 12) none (.mv
  (.t 0))), (.op (some 13) none (.call 59 [(.t 12)])), (.op (some 11) none (.mv (.t 13))), (.op (some 14) none (.xt (.t 11) 0)), (.op (some 15) none (.xt (.t 11) 1)),
  (.op (some 6) none (.mv (.t 14))), (.op (some 7) none (.mv (.t 15)))]) (.seq (.seq (.reg [(.op (some 16) none (.mv (.t 7))), (.op (some 17) none (.un .not (.t 16)))]) (.cond
  (.t 17) (.seq (.reg [(.op (some 4) none (.mv (.c (.string (bs []))))), (.op (some 5) none (.mv (.c (.bool false))))]) .ret) .skip)) (.seq (.reg [(.op (some 8) none
  (.alloc 91 [(.slice none 0 0), (.int .i64 0)]))]) (.seq (.seq (.reg [(.op (some 18) none (.mv (.t 1))), (.op (some 19) none (.lenL (.t 18))), (.op (some 20) none (.mv (.c
  (.int .i64 0))))]) (.block 0 (.loop (.seq (.reg [(.op (some 21) none (.bin .lss (.t 20) (.t 19)))]) (.seq (.cond (.t 21) .skip (.exit 0)) (.seq (.block 1 (.seq
  (.reg [(.op (some 22) none (.iad 1 (.t 18) (.t 20))), (.op (some 23) none (.ld (.t 22))), (.op (some 10) none (.mv (.t 23)))]) (.seq (.seq (.reg [(.op (some 24) none (.mv
  (.t 10))), (.op (some 25) none (.cvt .i64 (.t 24))), (.op (some 26) none (.mv (.t 0))), (.op (some 27) none (.lenL (.t 26))), (.op (some 28) none (.bin .geq (.t 25) (.t 27))),
  (.op (some 29) none (.mv (.t 28))), (.op (some 30) (some (29, false)) (.mv (.t 0))), (.op (some 31) (some (29, false)) (.mv (.t 10))), (.op (some 32) (some (29, false)) (.iad 1
  (.t 30) (.t 31))), (.op (some 33) (some (29, false)) (.ld (.t 32))), (.op (some 34) (some (29, false)) (.bin .eql (.t 33) (.c (.int .i64 0)))), (.op (some 35) none (.pick
  (.t 29) (.c (.bool true)) (.t 34)))]) (.cond (.t 35) (.seq (.reg [(.op (some 4) none (.mv (.c (.string (bs []))))), (.op (some 5) none (.mv (.c (.bool false))))]) .ret) .skip))
  (.reg [(.op (some 36) none (.mv (.t 6))), (.op (some 37) none (.mv (.t 10))), (.op (some 38) none (.iad 1 (.t 36) (.t 37))), (.op (some 39) none (.ld (.t 38))),
  (.op (some 40) none (.mv (.t 0))), (.op (some 41) none (.mv (.t 10))), (.op (some 42) none (.iad 1 (.t 40) (.t 41))), (.op (some 43) none (.ld (.t 42))), (.op (some 45) none
  (.mv (.t 0))), (.op (some 46) none (.mv (.t 10))), (.op (some 47) none (.iad 1 (.t 45) (.t 46))), (.op (some 48) none (.ld (.t 47))), (.op (some 44) none (.call 61 [(.t 39),
  (.t 43)])), (.chk 48 none (.ld (.t 47))), (.op (some 49) none (.call 60 [(.t 8), (.t 44), (.t 48)]))])))) (.reg [(.op (some 50) none (.bin .add (.t 20) (.c (.int .i64 1)))),
  (.op (some 20) none (.mv (.t 50)))]))))))) (.seq (.reg [(.op (some 51) none (.call 62 [(.t 8)])), (.op (some 52) none (.b2s 5 (.t 51))), (.op (some 4) none (.mv (.t 52))),
  (.op (some 5) none (.mv (.c (.bool true))))]) .ret)))))), [(.t 4), (.t 5)]⟩
def k36 : KFunc := ⟨44, (.seq (.reg [(.op (some 2) none (.mv (.c (.string (bs [])))))]) (.seq (.reg [(.op (some 7) none (.mv (.t 0))), (.op (some 8) none (.call 65 [(.t 7)])),
  (.op (some 3) none (.mv (.t 8)))]) (.seq (.reg [(.op (some 9) none (.mv (.t 3))), (.op (some 10) none (.lenL (.t 9))), (.op (some 11) none (.bin .sub (.t 10) (.c
  (.int .i64 1)))), (.op (some 12) none (.cvt .u8 (.t 11))), (.op (some 13) none (.bsl 5 1 [(.int .u8 0)] [(0, (1, (.t 12)))])), (.op (some 4) none (.mv (.t 13)))]) (.seq (.seq
  (.reg [(.op (some 5) none (.mv (.c (.int .i64 0))))]) (.block 0 (.loop (.seq (.seq (.reg [(.op (some 14) none (.mv (.t 5))), (.op (some 15) none (.mv (.t 3))),
  (.op (some 16) none (.lenL (.t 15))), (.op (some 17) none (.bin .lss (.t 14) (.t 16)))]) (.cond (.t 17) .skip (.exit 0))) (.seq (.block 1 (.seq (.reg [(.op (some 20) none (.mv
  (.t 3))), (.op (some 21) none (.mv (.t 5))), (.op (some 22) none (.iad 1 (.t 20) (.t 21))), (.op (some 23) none (.ld (.t 22))), (.op (some 6) none (.mv (.t 23)))]) (.seq (.seq
  (.reg [(.op (some 24) none (.mv (.t 5))), (.op (some 25) none (.bin .add (.t 24) (.c (.int .i64 1)))), (.op (some 26) none (.mv (.t 3))), (.op (some 27) none (.lenL (.t 26))),
  (.op (some 28) none (.bin .lss (.t 25) (.t 27)))]) (.cond (.t 28) (.reg [(.op (some 29) none (.mv (.t 6))), (.op (some 30) none (.mv (.t 3))), (.op (some 31) none (.mv (.t 5))),
  (.op (some 32) none (.bin .add (.t 31) (.c (.int .i64 1)))), (.op (some 33) none (.iad 1 (.t 30) (.t 32))), (.op (some 34) none (.ld (.t 33))), (.op (some 35) none (.bin .mul
  (.c (.int .i64 16)) (.t 34))), (.op (some 36) none (.bin .add (.t 29) (.t 35))), (.op (some 6) none (.mv (.t 36)))]) .skip)) (.reg [(.op (some 37) none (.mv (.t 4))),
  (.op (some 38) none (.mv (.t 6))), (.op (some 39) none (.cvt .u8 (.t 38))), (.op (some 40) none (.bsl 5 1 [(.int .u8 0)] [(0, (1, (.t 39)))])), (.op (some 41) none (.app 5 1 1
  (.t 37) (.t 40))), (.op (some 4) none (.mv (.t 41)))])))) (.reg [(.op (some 18) none (.mv (.t 5))), (.op (some 19) none (.bin .add (.t 18) (.c (.int .i64 2)))),
  (.op (some 5) none (.mv (.t 19)))])))))) (.seq (.reg [(.op (some 42) none (.mv (.t 4))), (.op (some 43) none (.b2s 5 (.t 42))), (.op (some 2) none (.mv (.t 43)))]) .ret))))),
  [(.t 2)]⟩
def k51 : KFunc := ⟨64, (.seq (.reg [(.op (some 6) none (.mv (.c (.slice none 0 0)))), (.op (some 7) none (.mv (.c (.bool false))))]) (.seq (.seq (.reg [(.op (some 16) none (.mv
  (.t 0))), (.op (some 17) none (.call 57 [(.t 16)])), (.op (some 18) none (.un .not (.t 17))), (.op (some 19) none (.mv (.t 18))), (.op (some 20) (some (19, false)) (.mv
  (.t 2))), (.op (some 21) (some (19, false)) (.bin .lss (.t 20) (.c (.int .i64 0)))), (.op (some 22) none (.pick (.t 19) (.c (.bool true)) (.t 21))), (.op (some 23) none (.mv
  (.t 22))), (.op (some 24) (some (23, false)) (.mv (.t 2))), (.op (some 25) (some (23, false)) (.bin .gtr (.t 24) (.c (.int .i64 1048576)))), (.op (some 26) none (.pick (.t 23)
  (.c (.bool true)) (.t 25)))]) (.cond (.t 26) (.seq (.reg [(.op (some 6) none (.mv (.c (.slice none 0 0)))), (.op (some 7) none (.mv (.c (.bool false))))]) .ret) .skip)) (.seq
  (.reg [(.op (some 27) none (.mv (.t 0))), (.op (some 28) none (.call 73 [(.t 27)])), (.op (some 29) none (.mv (.t 1))), (.op (some 30) none (.s2b 5 (.t 29))),
  (.op (some 31) none (.call 74 [(.t 30)])), (.op (some 8) none (.mv (.t 28))), (.op (some 9) none (.mv (.t 31)))]) (.seq (.reg [(.op (some 10) none (.mv (.c
  (.slice none 0 0))))]) (.seq (.seq (.reg [(.op (some 32) none (.mv (.t 2))), (.op (some 33) none (.mv (.c (.int .i64 0))))]) (.block 0 (.loop (.seq (.reg [(.op (some 34) none
  (.bin .lss (.t 33) (.t 32)))]) (.seq (.cond (.t 34) .skip (.exit 0)) (.seq (.block 1 (.seq (.reg [(.op (some 36) none (.mv (.t 8))), (.op (some 37) none (.mv (.t 9))),
  (.op (some 38) none (.call 75 [(.t 36), (.t 37)])), (.op (some 35) none (.mv (.t 38))), (.op (some 39) none (.xt (.t 35) 0)), (.op (some 40) none (.xt (.t 35) 1)),
  (.op (some 11) none (.mv (.t 39))), (.op (some 12) none (.mv (.t 40)))]) (.seq (.seq (.reg [(.op (some 41) none (.mv (.t 12))), (.op (some 42) none (.un .not (.t 41)))]) (.cond
  (.t 42) (.seq (.reg [(.op (some 6) none (.mv (.c (.slice none 0 0)))), (.op (some 7) none (.mv (.c (.bool false))))]) .ret) .skip)) (.reg [(.op (some 43) none (.mv (.t 10))),
  (.op (some 44) none (.mv (.t 11))), (.op (some 45) none (.bsl 5 1 [(.int .u8 0)] [(0, (1, (.t 44)))])), (.op (some 46) none (.app 5 1 1 (.t 43) (.t 45))), (.op (some 10) none
  (.mv (.t 46)))])))) (.reg [(.op (some 47) none (.bin .add (.t 33) (.c (.int .i64 1)))), (.op (some 33) none (.mv (.t 47)))]))))))) (.seq (.reg [(.op (some 48) none (.mv
  (.t 9))), (.op (some 49) none (.call 76 [(.t 48)])), (.op (some 13) none (.mv (.t 49)))]) (.seq (.seq (.reg [(.op (some 51) none (.mv (.t 9))), (.op (some 52) none (.mv
  (.t 13))), (.op (some 53) none (.mn (.t 52) [(.c (.int .i64 8))])), (.op (some 54) none (.call 77 [(.t 51), (.t 53)])), (.op (some 50) none (.mv (.t 54))), (.op (some 55) none
  (.xt (.t 50) 0)), (.op (some 56) none (.xt (.t 50) 1)), (.op (some 14) none (.mv (.t 55))), (.op (some 15) none (.mv (.t 56)))]) (.seq (.reg [(.op (some 57) none (.mv (.t 13))),
  (.op (some 58) none (.bin .gtr (.t 57) (.c (.int .i64 7)))), (.op (some 59) none (.mv (.t 58))), (.op (some 60) (some (59, false)) (.mv (.t 14))), (.op (some 61) (some (59,
  false)) (.bin .neq (.t 60) (.c (.int .u32 0)))), (.op (some 62) none (.pick (.t 59) (.c (.bool true)) (.t 61)))]) (.cond (.t 62) (.seq (.reg [(.op (some 6) none (.mv (.c
  (.slice none 0 0)))), (.op (some 7) none (.mv (.c (.bool false))))]) .ret) .skip))) (.seq (.reg [(.op (some 63) none (.mv (.t 10))), (.op (some 6) none (.mv (.t 63))),
  (.op (some 7) none (.mv (.c (.bool true))))]) .ret)))))))), [(.t 6), (.t 7)]⟩
def k57 : KFunc := ⟨38, (.seq (.reg [(.op (some 2) none (.mv (.c (.bool false))))]) (.seq (.seq (.reg [(.op (some 8) none (.mv (.t 0))), (.op (some 9) none (.call 87 [(.t 8)])),
  (.op (some 10) none (.un .not (.t 9)))]) (.cond (.t 10) (.seq (.reg [(.op (some 2) none (.mv (.c (.bool false))))]) .ret) .skip)) (.seq (.reg [(.op (some 3) none (.mv (.c
  (.int .i64 2048)))), (.op (some 4) none (.mv (.c (.int .i64 0)))), (.op (some 5) none (.mv (.c (.bool false))))]) (.seq (.seq (.reg [(.op (some 11) none (.mv (.t 0))),
  (.op (some 12) none (.lenL (.t 11))), (.op (some 13) none (.mv (.c (.int .i64 0))))]) (.block 0 (.loop (.seq (.reg [(.op (some 14) none (.bin .lss (.t 13) (.t 12)))]) (.seq
  (.cond (.t 14) .skip (.exit 0)) (.seq (.block 1 (.seq (.reg [(.op (some 15) none (.iad 1 (.t 11) (.t 13))), (.op (some 16) none (.ld (.t 15))), (.op (some 7) none (.mv
  (.t 16)))]) (.seq (.reg [(.op (some 17) none (.mv (.t 7))), (.op (some 18) none (.bin .gtr (.t 17) (.c (.int .i64 0))))]) (.cond (.t 18) (.seq (.reg [(.op (some 19) none (.mv
  (.t 3))), (.op (some 20) none (.mv (.t 7))), (.op (some 21) none (.bin .sub (.c (.int .i64 11)) (.t 20))), (.op (some 22) none (.bin .shl (.c (.int .i64 1)) (.t 21))),
  (.op (some 23) none (.bin .sub (.t 19) (.t 22))), (.op (some 3) none (.mv (.t 23)))]) (.seq (.reg [(.op (some 24) none (.mv (.t 4))), (.op (some 25) none (.bin .add (.t 24) (.c
  (.int .i64 1)))), (.op (some 4) none (.mv (.t 25)))]) (.reg [(.op (some 26) none (.mv (.t 7))), (.op (some 27) none (.bin .eql (.t 26) (.c (.int .i64 1)))), (.op (some 5) none
  (.mv (.t 27)))]))) .skip)))) (.reg [(.op (some 28) none (.bin .add (.t 13) (.c (.int .i64 1)))), (.op (some 13) none (.mv (.t 28)))]))))))) (.seq (.reg [(.op (some 29) none (.mv
  (.t 3))), (.op (some 30) none (.bin .eql (.t 29) (.c (.int .i64 0)))), (.op (some 31) none (.mv (.t 30))), (.op (some 32) (some (31, false)) (.mv (.t 4))),
  (.op (some 33) (some (31, false)) (.bin .eql (.t 32) (.c (.int .i64 1)))), (.op (some 34) (some (31, false)) (.mv (.t 33))), (.op (some 35) (some (34, true)) (.mv (.t 5))),
  (.op (some 36) (some (31, false)) (.pick (.t 34) (.t 35) (.c (.bool false)))), (.op (some 37) none (.pick (.t 31) (.c (.bool true)) (.t 36))), (.op (some 2) none (.mv
  (.t 37)))]) .ret))))), [(.t 2)]⟩
def k58 : KFunc := ⟨21, (.seq (.reg [(.op (some 2) none (.mv (.c (.slice none 0 0))))]) (.seq (.reg [(.op (some 4) none (.mv (.t 0))), (.op (some 5) none (.lenL (.t 4))),
  (.op (some 3) none (.mv (.t 5)))]) (.seq (.block 0 (.loop (.seq (.seq (.reg [(.op (some 6) none (.mv (.t 3))), (.op (some 7) none (.bin .gtr (.t 6) (.c (.int .i64 0)))),
  (.op (some 8) none (.mv (.t 7))), (.op (some 9) (some (8, true)) (.mv (.t 0))), (.op (some 10) (some (8, true)) (.mv (.t 3))), (.op (some 11) (some (8, true)) (.bin .sub (.t 10)
  (.c (.int .i64 1)))), (.op (some 12) (some (8, true)) (.iad 1 (.t 9) (.t 11))), (.op (some 13) (some (8, true)) (.ld (.t 12))), (.op (some 14) (some (8, true)) (.bin .eql
  (.t 13) (.c (.int .i64 0)))), (.op (some 15) none (.pick (.t 8) (.t 14) (.c (.bool false))))]) (.cond (.t 15) .skip (.exit 0))) (.block 1 (.reg [(.op (some 16) none (.mv
  (.t 3))), (.op (some 17) none (.bin .sub (.t 16) (.c (.int .i64 1)))), (.op (some 3) none (.mv (.t 17)))]))))) (.seq (.reg [(.op (some 18) none (.mv (.t 0))),
  (.op (some 19) none (.mv (.t 3))), (.op (some 20) none (.slc 3 1 (.t 18) none (some (.t 19)))), (.op (some 2) none (.mv (.t 20)))]) .ret)))), [(.t 2)]⟩
def k59 : KFunc := ⟨39, (.seq (.reg [(.op (some 2) none (.mv (.c (.slice none 0 0)))), (.op (some 3) none (.mv (.c (.bool false))))]) (.seq (.seq (.reg [(.op (some 9) none (.mv
  (.t 0))), (.op (some 10) none (.call 57 [(.t 9)])), (.op (some 11) none (.un .not (.t 10)))]) (.cond (.t 11) (.seq (.reg [(.op (some 2) none (.mv (.c (.slice none 0 0)))),
  (.op (some 3) none (.mv (.c (.bool false))))]) .ret) .skip)) (.seq (.reg [(.op (some 12) none (.mv (.t 0))), (.op (some 13) none (.lenL (.t 12))), (.op (some 14) none
  (.mks 3 [(.int .i64 0)] 8 (.t 13) (.t 13))), (.op (some 4) none (.mv (.t 14)))]) (.seq (.reg [(.op (some 5) none (.mv (.c (.int .i64 0))))]) (.seq (.seq
  (.reg [(.op (some 6) none (.mv (.c (.int .i64 1))))]) (.block 0 (.loop (.seq (.seq (.reg [(.op (some 15) none (.mv (.t 6))), (.op (some 16) none (.bin .leq (.t 15) (.c
  (.int .i64 11))))]) (.cond (.t 16) .skip (.exit 0))) (.seq (.block 1 (.seq (.seq (.reg [(.op (some 19) none (.mv (.t 0))), (.op (some 20) none (.lenL (.t 19))),
  (.op (some 21) none (.mv (.c (.int .i64 0))))]) (.block 2 (.loop (.seq (.reg [(.op (some 22) none (.bin .lss (.t 21) (.t 20)))]) (.seq (.cond (.t 22) .skip (.exit 2)) (.seq
  (.block 3 (.seq (.reg [(.op (some 23) none (.mv (.t 21))), (.op (some 24) none (.iad 1 (.t 19) (.t 21))), (.op (some 25) none (.ld (.t 24))), (.op (some 7) none (.mv (.t 23))),
  (.op (some 8) none (.mv (.t 25)))]) (.seq (.reg [(.op (some 26) none (.mv (.t 8))), (.op (some 27) none (.mv (.t 6))), (.op (some 28) none (.bin .eql (.t 26) (.t 27)))]) (.cond
  (.t 28) (.seq (.reg [(.op (some 29) none (.mv (.t 4))), (.op (some 30) none (.mv (.t 7))), (.op (some 31) none (.mv (.t 5))), (.op (some 32) none (.iad 1 (.t 29) (.t 30))),
  (.op none none (.st (.t 32) (.t 31)))]) (.reg [(.op (some 33) none (.mv (.t 5))), (.op (some 34) none (.bin .add (.t 33) (.c (.int .i64 1)))), (.op (some 5) none (.mv
  (.t 34)))])) .skip)))) (.reg [(.op (some 35) none (.bin .add (.t 21) (.c (.int .i64 1)))), (.op (some 21) none (.mv (.t 35)))]))))))) (.reg [(.op (some 36) none (.mv (.t 5))),
  (.op (some 37) none (.bin .shl (.t 36) (.c (.int .u64 1)))), (.op (some 5) none (.mv (.t 37)))]))) (.reg [(.op (some 17) none (.mv (.t 6))), (.op (some 18) none (.bin .add
  (.t 17) (.c (.int .i64 1)))), (.op (some 6) none (.mv (.t 18)))])))))) (.seq (.reg [(.op (some 38) none (.mv (.t 4))), (.op (some 2) none (.mv (.t 38))), (.op (some 3) none (.mv
  (.c (.bool true))))]) .ret)))))), [(.t 2), (.t 3)]⟩
def k60 : KFunc := ⟨74, (.seq (.reg [(.op (some 6) none (.mv (.c (.bool false))))]) (.seq (.seq (.reg [(.op (some 9) none (.mv (.t 0))), (.op (some 10) none (.eqv .ptr false
  (.t 9) (.c (.pointer none)))), (.op (some 11) none (.mv (.t 10))), (.op (some 12) (some (11, false)) (.mv (.t 2))), (.op (some 13) (some (11, false)) (.call 88 [(.t 12)])),
  (.op (some 14) (some (11, false)) (.un .not (.t 13))), (.op (some 15) none (.pick (.t 11) (.c (.bool true)) (.t 14)))]) (.cond (.t 15) (.seq (.reg [(.op (some 6) none (.mv (.c
  (.bool false))))]) .ret) .skip)) (.seq (.block 0 (.loop (.seq (.seq (.reg [(.op (some 16) none (.mv (.t 2))), (.op (some 17) none (.bin .gtr (.t 16) (.c (.int .i64 0))))])
  (.cond (.t 17) .skip (.exit 0))) (.block 1 (.seq (.reg [(.op (some 18) none (.mv (.t 0))), (.op (some 19) none (.nck (.t 18))), (.op (some 20) none (.fad 1 (.t 19))),
  (.op (some 21) none (.ld (.t 20))), (.op (some 22) none (.bin .and (.t 21) (.c (.int .i64 7)))), (.op (some 7) none (.mv (.t 22)))]) (.seq (.seq (.reg [(.op (some 23) none (.mv
  (.t 7))), (.op (some 24) none (.bin .eql (.t 23) (.c (.int .i64 0))))]) (.cond (.t 24) (.reg [(.op (some 25) none (.mv (.t 0))), (.op (some 26) none (.mv (.t 0))),
  (.op (some 27) none (.nck (.t 26))), (.op (some 28) none (.fad 0 (.t 27))), (.op (some 29) none (.ld (.t 28))), (.op (some 30) none (.bsl 5 1 [(.int .u8 0)] [(0, (1, (.c
  (.int .u8 0))))])), (.op (some 31) none (.app 5 1 1 (.t 29) (.t 30))), (.op (some 32) none (.nck (.t 25))), (.op (some 33) none (.fad 0 (.t 32))), (.op none none (.st (.t 33)
  (.t 31)))]) .skip)) (.seq (.reg [(.op (some 34) none (.mv (.t 2))), (.op (some 35) none (.mv (.t 7))), (.op (some 36) none (.bin .sub (.c (.int .i64 8)) (.t 35))),
  (.op (some 37) none (.mn (.t 34) [(.t 36)])), (.op (some 8) none (.mv (.t 37)))]) (.seq (.reg [(.op (some 38) none (.mv (.t 0))), (.op (some 39) none (.nck (.t 38))),
  (.op (some 40) none (.fad 0 (.t 39))), (.op (some 41) none (.ld (.t 40))), (.op (some 42) none (.mv (.t 0))), (.op (some 43) none (.nck (.t 42))), (.op (some 44) none (.fad 0
  (.t 43))), (.op (some 45) none (.ld (.t 44))), (.op (some 46) none (.lenL (.t 45))), (.op (some 47) none (.bin .sub (.t 46) (.c (.int .i64 1)))), (.op (some 48) none (.iad 1
  (.t 41) (.t 47))), (.op (some 49) none (.ld (.t 48))), (.op (some 50) none (.mv (.t 1))), (.op (some 51) none (.mv (.t 8))), (.op (some 52) none (.bin .shl (.c (.int .u32 1))
  (.t 51))), (.op (some 53) none (.bin .sub (.t 52) (.c (.int .u32 1)))), (.op (some 54) none (.bin .and (.t 50) (.t 53))), (.op (some 55) none (.cvt .u8 (.t 54))),
  (.op (some 56) none (.mv (.t 7))), (.op (some 57) none (.bin .shl (.t 55) (.t 56))), (.op (some 58) none (.bin .or (.t 49) (.t 57))), (.op (some 59) none (.iad 1 (.t 41)
  (.t 47))), (.op none none (.st (.t 59) (.t 58)))]) (.seq (.reg [(.op (some 60) none (.mv (.t 1))), (.op (some 61) none (.mv (.t 8))), (.op (some 62) none (.bin .shr (.t 60)
  (.t 61))), (.op (some 1) none (.mv (.t 62)))]) (.seq (.reg [(.op (some 63) none (.mv (.t 0))), (.op (some 64) none (.nck (.t 63))), (.op (some 65) none (.fad 1 (.t 64))),
  (.op (some 66) none (.ld (.t 65))), (.op (some 67) none (.mv (.t 8))), (.op (some 68) none (.bin .add (.t 66) (.t 67))), (.op (some 69) none (.nck (.t 63))), (.op (some 70) none
  (.fad 1 (.t 69))), (.op none none (.st (.t 70) (.t 68)))]) (.reg [(.op (some 71) none (.mv (.t 2))), (.op (some 72) none (.mv (.t 8))), (.op (some 73) none (.bin .sub (.t 71)
  (.t 72))), (.op (some 2) none (.mv (.t 73)))]))))))))))) (.seq (.reg [(.op (some 6) none (.mv (.c (.bool true))))]) .ret)))), [(.t 6)]⟩
def k61 : KFunc := ⟨19, (.seq (.reg [(.op (some 4) none (.mv (.c (.int .u32 0))))]) (.seq (.reg [(.op (some 5) none (.mv (.c (.int .u32 0))))]) (.seq (.seq
  (.reg [(.op (some 6) none (.mv (.t 1))), (.op (some 7) none (.mv (.c (.int .i64 0))))]) (.block 0 (.loop (.seq (.reg [(.op (some 8) none (.bin .lss (.t 7) (.t 6)))]) (.seq
  (.cond (.t 8) .skip (.exit 0)) (.seq (.block 1 (.seq (.reg [(.op (some 9) none (.mv (.t 5))), (.op (some 10) none (.bin .shl (.t 9) (.c (.int .u64 1)))), (.op (some 11) none
  (.mv (.t 0))), (.op (some 12) none (.bin .and (.t 11) (.c (.int .i64 1)))), (.op (some 13) none (.cvt .u32 (.t 12))), (.op (some 14) none (.bin .or (.t 10) (.t 13))),
  (.op (some 5) none (.mv (.t 14)))]) (.reg [(.op (some 15) none (.mv (.t 0))), (.op (some 16) none (.bin .shr (.t 15) (.c (.int .u64 1)))), (.op (some 0) none (.mv (.t 16)))])))
  (.reg [(.op (some 17) none (.bin .add (.t 7) (.c (.int .i64 1)))), (.op (some 7) none (.mv (.t 17)))]))))))) (.seq (.reg [(.op (some 18) none (.mv (.t 5))), (.op (some 4) none
  (.mv (.t 18)))]) .ret)))), [(.t 4)]⟩
def k62 : KFunc := ⟨10, (.seq (.reg [(.op (some 2) none (.mv (.c (.slice none 0 0))))]) (.seq (.seq (.reg [(.op (some 3) none (.mv (.t 0))), (.op (some 4) none (.eqv .ptr false
  (.t 3) (.c (.pointer none))))]) (.cond (.t 4) (.seq (.reg [(.op (some 2) none (.mv (.c (.slice none 0 0))))]) .ret) .skip)) (.seq (.reg [(.op (some 5) none (.mv (.t 0))),
  (.op (some 6) none (.nck (.t 5))), (.op (some 7) none (.fad 0 (.t 6))), (.op (some 8) none (.ld (.t 7))), (.op (some 9) none (.app 5 1 1 (.c (.slice none 0 0)) (.t 8))),
  (.op (some 2) none (.mv (.t 9)))]) .ret))), [(.t 2)]⟩
def k63 : KFunc := ⟨25, (.seq (.reg [(.op (some 2) none (.mv (.c (.bool false))))]) (.seq (.seq (.reg [(.op (some 3) none (.mv (.c (.int .i64 0))))]) (.block 0 (.loop (.seq (.seq
  (.reg [(.op (some 4) none (.mv (.t 3))), (.op (some 5) none (.mv (.t 0))), (.op (some 6) none (.lenL (.t 5))), (.op (some 7) none (.bin .lss (.t 4) (.t 6)))]) (.cond
  (.t 7) .skip (.exit 0))) (.seq (.block 1 (.seq (.reg [(.op (some 10) none (.mv (.t 0))), (.op (some 11) none (.mv (.t 3))), (.op (some 12) none (.iad 1 (.t 10) (.t 11))),
  (.op (some 13) none (.ld (.t 12))), (.op (some 14) none (.bin .lss (.t 13) (.c (.int .i64 0)))), (.op (some 15) none (.mv (.t 14))), (.op (some 16) (some (15, false)) (.mv
  (.t 0))), (.op (some 17) (some (15, false)) (.mv (.t 3))), (.op (some 18) (some (15, false)) (.iad 1 (.t 16) (.t 17))), (.op (some 19) (some (15, false)) (.ld (.t 18))),
  (.op (some 20) (some (15, false)) (.bin .gtr (.t 19) (.c (.int .i64 11)))), (.op (some 21) none (.pick (.t 15) (.c (.bool true)) (.t 20)))]) (.cond (.t 21) (.seq
  (.reg [(.op (some 2) none (.mv (.c (.bool false))))]) .ret) .skip))) (.reg [(.op (some 8) none (.mv (.t 3))), (.op (some 9) none (.bin .add (.t 8) (.c (.int .i64 1)))),
  (.op (some 3) none (.mv (.t 9)))])))))) (.seq (.reg [(.op (some 22) none (.mv (.t 0))), (.op (some 23) none (.lenL (.t 22))), (.op (some 24) none (.bin .leq (.t 23) (.c
  (.int .i64 256)))), (.op (some 2) none (.mv (.t 24)))]) .ret))), [(.t 2)]⟩
def k64 : KFunc := ⟨13, (.seq (.reg [(.op (some 2) none (.mv (.c (.int .i64 0))))]) (.seq (.reg [(.op (some 3) none (.mv (.c (.int .i64 1))))]) (.seq (.seq
  (.reg [(.op (some 4) none (.mv (.c (.int .i64 0))))]) (.block 0 (.loop (.seq (.seq (.reg [(.op (some 5) none (.mv (.t 4))), (.op (some 6) none (.mv (.t 0))), (.op (some 7) none
  (.bin .lss (.t 5) (.t 6)))]) (.cond (.t 7) .skip (.exit 0))) (.seq (.block 1 (.reg [(.op (some 10) none (.mv (.t 3))), (.op (some 11) none (.bin .mul (.t 10) (.c
  (.int .i64 2)))), (.op (some 3) none (.mv (.t 11)))])) (.reg [(.op (some 8) none (.mv (.t 4))), (.op (some 9) none (.bin .add (.t 8) (.c (.int .i64 1)))), (.op (some 4) none
  (.mv (.t 9)))])))))) (.seq (.reg [(.op (some 12) none (.mv (.t 3))), (.op (some 2) none (.mv (.t 12)))]) .ret)))), [(.t 2)]⟩
def k65 : KFunc := ⟨21, (.seq (.reg [(.op (some 2) none (.mv (.c (.slice none 0 0))))]) (.seq (.reg [(.op (some 4) none (.mv (.t 0))), (.op (some 5) none (.lenL (.t 4))),
  (.op (some 3) none (.mv (.t 5)))]) (.seq (.block 0 (.loop (.seq (.seq (.reg [(.op (some 6) none (.mv (.t 3))), (.op (some 7) none (.bin .gtr (.t 6) (.c (.int .i64 0)))),
  (.op (some 8) none (.mv (.t 7))), (.op (some 9) (some (8, true)) (.mv (.t 0))), (.op (some 10) (some (8, true)) (.mv (.t 3))), (.op (some 11) (some (8, true)) (.bin .sub (.t 10)
  (.c (.int .i64 1)))), (.op (some 12) (some (8, true)) (.iad 1 (.t 9) (.t 11))), (.op (some 13) (some (8, true)) (.ld (.t 12))), (.op (some 14) (some (8, true)) (.bin .eql
  (.t 13) (.c (.int .i64 0)))), (.op (some 15) none (.pick (.t 8) (.t 14) (.c (.bool false))))]) (.cond (.t 15) .skip (.exit 0))) (.block 1 (.reg [(.op (some 16) none (.mv
  (.t 3))), (.op (some 17) none (.bin .sub (.t 16) (.c (.int .i64 1)))), (.op (some 3) none (.mv (.t 17)))]))))) (.seq (.reg [(.op (some 18) none (.mv (.t 0))),
  (.op (some 19) none (.mv (.t 3))), (.op (some 20) none (.slc 3 1 (.t 18) none (some (.t 19)))), (.op (some 2) none (.mv (.t 20)))]) .ret)))), [(.t 2)]⟩
def k66 : KFunc := ⟨79, (.seq (.reg [(.op (some 2) none (.mv (.c (.slice none 0 0))))]) (.seq (.reg [(.op (some 7) none (.mv (.t 0))), (.op (some 8) none (.lenL (.t 7))),
  (.op (some 9) none (.mks 3 [(.int .i64 0)] 8 (.t 8) (.t 8))), (.op (some 3) none (.mv (.t 9)))]) (.seq (.seq (.reg [(.op (some 4) none (.mv (.c (.int .i64 0))))]) (.block 0
  (.loop (.seq (.seq (.reg [(.op (some 10) none (.mv (.t 4))), (.op (some 11) none (.mv (.t 0))), (.op (some 12) none (.lenL (.t 11))), (.op (some 13) none (.bin .lss (.t 10)
  (.t 12)))]) (.cond (.t 13) .skip (.exit 0))) (.seq (.block 1 (.seq (.seq (.reg [(.op (some 16) none (.mv (.t 0))), (.op (some 17) none (.mv (.t 4))), (.op (some 18) none (.iad 1
  (.t 16) (.t 17))), (.op (some 19) none (.ld (.t 18))), (.op (some 20) none (.bin .eql (.t 19) (.c (.int .i64 0))))]) (.cond (.t 20) (.exit 1) .skip)) (.seq
  (.reg [(.op (some 5) none (.mv (.c (.int .i64 0))))]) (.seq (.seq (.reg [(.op (some 6) none (.mv (.c (.int .i64 0))))]) (.block 2 (.loop (.seq (.seq (.reg [(.op (some 21) none
  (.mv (.t 6))), (.op (some 22) none (.mv (.t 0))), (.op (some 23) none (.lenL (.t 22))), (.op (some 24) none (.bin .lss (.t 21) (.t 23)))]) (.cond (.t 24) .skip (.exit 2))) (.seq
  (.block 3 (.seq (.reg [(.op (some 27) none (.mv (.t 0))), (.op (some 28) none (.mv (.t 6))), (.op (some 29) none (.iad 1 (.t 27) (.t 28))), (.op (some 30) none (.ld (.t 29))),
  (.op (some 31) none (.bin .gtr (.t 30) (.c (.int .i64 0)))), (.op (some 32) none (.mv (.t 31))), (.op (some 33) (some (32, true)) (.mv (.t 0))), (.op (some 34) (some (32, true))
  (.mv (.t 6))), (.op (some 35) (some (32, true)) (.iad 1 (.t 33) (.t 34))), (.op (some 36) (some (32, true)) (.ld (.t 35))), (.op (some 37) (some (32, true)) (.mv (.t 0))),
  (.op (some 38) (some (32, true)) (.mv (.t 4))), (.op (some 39) (some (32, true)) (.iad 1 (.t 37) (.t 38))), (.op (some 40) (some (32, true)) (.ld (.t 39))),
  (.op (some 41) (some (32, true)) (.bin .lss (.t 36) (.t 40))), (.op (some 42) (some (32, true)) (.mv (.t 41))), (.op (some 43) (some (42, false)) (.mv (.t 0))),
  (.op (some 44) (some (42, false)) (.mv (.t 6))), (.op (some 45) (some (42, false)) (.iad 1 (.t 43) (.t 44))), (.op (some 46) (some (42, false)) (.ld (.t 45))),
  (.op (some 47) (some (42, false)) (.mv (.t 0))), (.op (some 48) (some (42, false)) (.mv (.t 4))), (.op (some 49) (some (42, false)) (.iad 1 (.t 47) (.t 48))),
  (.op (some 50) (some (42, false)) (.ld (.t 49))), (.op (some 51) (some (42, false)) (.bin .eql (.t 46) (.t 50))), (.op (some 52) (some (42, false)) (.mv (.t 51))),
  (.op (some 53) (some (52, true)) (.mv (.t 6))), (.op (some 54) (some (52, true)) (.mv (.t 4))), (.op (some 55) (some (52, true)) (.bin .lss (.t 53) (.t 54))),
  (.op (some 56) (some (42, false)) (.pick (.t 52) (.t 55) (.c (.bool false)))), (.op (some 57) (some (32, true)) (.pick (.t 42) (.c (.bool true)) (.t 56))), (.op (some 58) none
  (.pick (.t 32) (.t 57) (.c (.bool false))))]) (.cond (.t 58) (.reg [(.op (some 59) none (.mv (.t 5))), (.op (some 60) none (.mv (.t 0))), (.op (some 61) none (.mv (.t 6))),
  (.op (some 62) none (.iad 1 (.t 60) (.t 61))), (.op (some 63) none (.ld (.t 62))), (.op (some 64) none (.bin .sub (.c (.int .i64 11)) (.t 63))), (.op (some 65) none
  (.call 64 [(.t 64)])), (.op (some 66) none (.bin .add (.t 59) (.t 65))), (.op (some 5) none (.mv (.t 66)))]) .skip))) (.reg [(.op (some 25) none (.mv (.t 6))),
  (.op (some 26) none (.bin .add (.t 25) (.c (.int .i64 1)))), (.op (some 6) none (.mv (.t 26)))])))))) (.reg [(.op (some 67) none (.mv (.t 3))), (.op (some 68) none (.mv
  (.t 4))), (.op (some 69) none (.mv (.t 5))), (.op (some 70) none (.mv (.t 0))), (.op (some 71) none (.mv (.t 4))), (.op (some 72) none (.iad 1 (.t 70) (.t 71))),
  (.op (some 73) none (.ld (.t 72))), (.op (some 74) none (.bin .sub (.c (.int .i64 11)) (.t 73))), (.op (some 75) none (.call 64 [(.t 74)])), (.op (some 76) none (.bin .quo
  (.t 69) (.t 75))), (.op (some 77) none (.iad 1 (.t 67) (.t 68))), (.op none none (.st (.t 77) (.t 76)))]))))) (.reg [(.op (some 14) none (.mv (.t 4))), (.op (some 15) none
  (.bin .add (.t 14) (.c (.int .i64 1)))), (.op (some 4) none (.mv (.t 15)))])))))) (.seq (.reg [(.op (some 78) none (.mv (.t 3))), (.op (some 2) none (.mv (.t 78)))]) .ret)))),
  [(.t 2)]⟩
def k67 : KFunc := ⟨21, (.seq (.reg [(.op (some 4) none (.mv (.c (.slice none 0 0))))]) (.seq (.reg [(.op (some 5) none (.mv (.c (.slice none 0 0))))]) (.seq (.seq
  (.reg [(.op (some 6) none (.mv (.c (.int .i64 0))))]) (.block 0 (.loop (.seq (.seq (.reg [(.op (some 7) none (.mv (.t 6))), (.op (some 8) none (.mv (.t 1))), (.op (some 9) none
  (.bin .lss (.t 7) (.t 8)))]) (.cond (.t 9) .skip (.exit 0))) (.seq (.block 1 (.reg [(.op (some 12) none (.mv (.t 5))), (.op (some 13) none (.mv (.t 0))), (.op (some 14) none
  (.mv (.t 6))), (.op (some 15) none (.bin .shr (.t 13) (.t 14))), (.op (some 16) none (.cvt .i64 (.t 15))), (.op (some 17) none (.bin .rem (.t 16) (.c (.int .i64 2)))),
  (.op (some 18) none (.bsl 3 1 [(.int .i64 0)] [(0, (1, (.t 17)))])), (.op (some 19) none (.app 3 1 8 (.t 12) (.t 18))), (.op (some 5) none (.mv (.t 19)))]))
  (.reg [(.op (some 10) none (.mv (.t 6))), (.op (some 11) none (.bin .add (.t 10) (.c (.int .i64 1)))), (.op (some 6) none (.mv (.t 11)))])))))) (.seq (.reg [(.op (some 20) none
  (.mv (.t 5))), (.op (some 4) none (.mv (.t 20)))]) .ret)))), [(.t 4)]⟩
def k73 : KFunc := ⟨72, (.seq (.reg [(.op (some 2) none (.mv (.c (.pointer none))))]) (.seq (.reg [(.op (some 8) none (.build [(.int .i64 0), (.int .i64 0), (.int .i64 0),
  (.int .i64 0), (.int .i64 0), (.int .i64 0), (.int .i64 0), (.int .i64 0), (.int .i64 0), (.int .i64 0), (.int .i64 0), (.int .i64 0), (.int .i64 0), (.int .i64 0),
  (.int .i64 0), (.int .i64 0), (.int .i64 0), (.int .i64 0), (.int .i64 0), (.int .i64 0), (.int .i64 0), (.int .i64 0), (.int .i64 0), (.int .i64 0), (.int .i64 0),
  (.int .i64 0), (.int .i64 0), (.int .i64 0), (.int .i64 0), (.int .i64 0), (.int .i64 0), (.int .i64 0), (.int .i64 0), (.int .i64 0), (.int .i64 0), (.int .i64 0),
  (.int .i64 0), (.int .i64 0), (.int .i64 0), (.slice none 0 0)] [])), (.op (some 9) none (.box 127 (.t 8))), (.op (some 3) none (.mv (.t 9)))]) (.seq (.reg [(.op (some 4) none
  (.mv (.c (.int .i64 0))))]) (.seq (.seq (.reg [(.op (some 5) none (.mv (.c (.int .i64 1))))]) (.block 0 (.loop (.seq (.seq (.reg [(.op (some 10) none (.mv (.t 5))),
  (.op (some 11) none (.bin .leq (.t 10) (.c (.int .i64 11))))]) (.cond (.t 11) .skip (.exit 0))) (.seq (.block 1 (.seq (.reg [(.op (some 14) none (.mv (.t 3))),
  (.op (some 15) none (.mv (.t 5))), (.op (some 16) none (.mv (.t 3))), (.op (some 17) none (.mv (.t 5))), (.op (some 18) none (.mv (.t 4))), (.op (some 19) none (.mv (.t 3))),
  (.op (some 20) none (.nck (.t 19))), (.op (some 21) none (.fad 39 (.t 20))), (.op (some 22) none (.ld (.t 21))), (.op (some 23) none (.lenL (.t 22))), (.op (some 24) none (.nck
  (.t 14))), (.op (some 25) none (.fad 0 (.t 24))), (.op (some 26) none (.iada 13 1 (.t 25) (.t 15))), (.op (some 27) none (.nck (.t 16))), (.op (some 28) none (.fad 26 (.t 27))),
  (.op none none (.st (.t 26) (.t 18))), (.op (some 29) none (.iada 13 1 (.t 28) (.t 17))), (.op none none (.st (.t 29) (.t 23)))]) (.seq (.seq (.reg [(.op (some 30) none (.mv
  (.t 0))), (.op (some 31) none (.lenL (.t 30))), (.op (some 32) none (.mv (.c (.int .i64 0))))]) (.block 2 (.loop (.seq (.reg [(.op (some 33) none (.bin .lss (.t 32) (.t 31)))])
  (.seq (.cond (.t 33) .skip (.exit 2)) (.seq (.block 3 (.seq (.reg [(.op (some 34) none (.mv (.t 32))), (.op (some 35) none (.iad 1 (.t 30) (.t 32))), (.op (some 36) none (.ld
  (.t 35))), (.op (some 6) none (.mv (.t 34))), (.op (some 7) none (.mv (.t 36)))]) (.seq (.reg [(.op (some 37) none (.mv (.t 7))), (.op (some 38) none (.mv (.t 5))),
  (.op (some 39) none (.bin .eql (.t 37) (.t 38)))]) (.cond (.t 39) (.seq (.reg [(.op (some 40) none (.mv (.t 3))), (.op (some 41) none (.mv (.t 3))), (.op (some 42) none (.nck
  (.t 41))), (.op (some 43) none (.fad 39 (.t 42))), (.op (some 44) none (.ld (.t 43))), (.op (some 45) none (.mv (.t 6))), (.op (some 46) none (.cvt .u8 (.t 45))),
  (.op (some 47) none (.bsl 5 1 [(.int .u8 0)] [(0, (1, (.t 46)))])), (.op (some 48) none (.app 5 1 1 (.t 44) (.t 47))), (.op (some 49) none (.nck (.t 40))), (.op (some 50) none
  (.fad 39 (.t 49))), (.op none none (.st (.t 50) (.t 48)))]) (.reg [(.op (some 51) none (.mv (.t 3))), (.op (some 52) none (.mv (.t 5))), (.op (some 53) none (.nck (.t 51))),
  (.op (some 54) none (.fad 13 (.t 53))), (.op (some 55) none (.iada 13 1 (.t 54) (.t 52))), (.op (some 56) none (.ld (.t 55))), (.op (some 57) none (.bin .add (.t 56) (.c
  (.int .i64 1)))), (.op (some 58) none (.nck (.t 51))), (.op (some 59) none (.fad 13 (.t 58))), (.op (some 60) none (.iada 13 1 (.t 59) (.t 52))), (.op none none (.st (.t 60)
  (.t 57)))])) .skip)))) (.reg [(.op (some 61) none (.bin .add (.t 32) (.c (.int .i64 1)))), (.op (some 32) none (.mv (.t 61)))]))))))) (.reg [(.op (some 62) none (.mv (.t 4))),
  (.op (some 63) none (.mv (.t 3))), (.op (some 64) none (.mv (.t 5))), (.op (some 65) none (.nck (.t 63))), (.op (some 66) none (.fad 13 (.t 65))), (.op (some 67) none
  (.iada 13 1 (.t 66) (.t 64))), (.op (some 68) none (.ld (.t 67))), (.op (some 69) none (.bin .add (.t 62) (.t 68))), (.op (some 70) none (.bin .shl (.t 69) (.c (.int .u64 1)))),
  (.op (some 4) none (.mv (.t 70)))])))) (.reg [(.op (some 12) none (.mv (.t 5))), (.op (some 13) none (.bin .add (.t 12) (.c (.int .i64 1)))), (.op (some 5) none (.mv
  (.t 13)))])))))) (.seq (.reg [(.op (some 71) none (.mv (.t 3))), (.op (some 2) none (.mv (.t 71)))]) .ret))))), [(.t 2)]⟩
def k74 : KFunc := ⟨7, (.seq (.reg [(.op (some 2) none (.mv (.c (.pointer none))))]) (.seq (.reg [(.op (some 3) none (.mv (.t 0))), (.op (some 4) none (.app 5 1 1 (.c
  (.slice none 0 0)) (.t 3))), (.op (some 5) none (.build [(.slice none 0 0), (.int .i64 0)] [(0, (1, (.t 4)))])), (.op (some 6) none (.box 129 (.t 5))), (.op (some 2) none (.mv
  (.t 6)))]) .ret)), [(.t 2)]⟩
def k75 : KFunc := ⟨61, (.seq (.reg [(.op (some 4) none (.mv (.c (.int .u8 0)))), (.op (some 5) none (.mv (.c (.bool false))))]) (.seq (.reg [(.op (some 6) none (.mv (.c
  (.int .i64 0))))]) (.seq (.seq (.reg [(.op (some 7) none (.mv (.c (.int .i64 1))))]) (.block 0 (.loop (.seq (.seq (.reg [(.op (some 11) none (.mv (.t 7))), (.op (some 12) none
  (.bin .leq (.t 11) (.c (.int .i64 11))))]) (.cond (.t 12) .skip (.exit 0))) (.seq (.block 1 (.seq (.reg [(.op (some 16) none (.mv (.t 1))), (.op (some 17) none
  (.call 77 [(.t 16), (.c (.int .i64 1))])), (.op (some 15) none (.mv (.t 17))), (.op (some 18) none (.xt (.t 15) 0)), (.op (some 19) none (.xt (.t 15) 1)), (.op (some 8) none
  (.mv (.t 18))), (.op (some 9) none (.mv (.t 19)))]) (.seq (.seq (.reg [(.op (some 20) none (.mv (.t 9))), (.op (some 21) none (.un .not (.t 20)))]) (.cond (.t 21) (.seq
  (.reg [(.op (some 4) none (.mv (.c (.int .u8 0)))), (.op (some 5) none (.mv (.c (.bool false))))]) .ret) .skip)) (.seq (.reg [(.op (some 22) none (.mv (.t 6))),
  (.op (some 23) none (.bin .shl (.t 22) (.c (.int .u64 1)))), (.op (some 24) none (.mv (.t 8))), (.op (some 25) none (.cvt .i64 (.t 24))), (.op (some 26) none (.bin .or (.t 23)
  (.t 25))), (.op (some 6) none (.mv (.t 26)))]) (.seq (.reg [(.op (some 27) none (.mv (.t 6))), (.op (some 28) none (.mv (.t 0))), (.op (some 29) none (.mv (.t 7))),
  (.op (some 30) none (.nck (.t 28))), (.op (some 31) none (.fad 0 (.t 30))), (.op (some 32) none (.iada 13 1 (.t 31) (.t 29))), (.op (some 33) none (.ld (.t 32))),
  (.op (some 34) none (.bin .sub (.t 27) (.t 33))), (.op (some 10) none (.mv (.t 34)))]) (.seq (.reg [(.op (some 35) none (.mv (.t 10))), (.op (some 36) none (.bin .geq (.t 35)
  (.c (.int .i64 0)))), (.op (some 37) none (.mv (.t 36))), (.op (some 38) (some (37, true)) (.mv (.t 10))), (.op (some 39) (some (37, true)) (.mv (.t 0))),
  (.op (some 40) (some (37, true)) (.mv (.t 7))), (.op (some 41) (some (37, true)) (.nck (.t 39))), (.op (some 42) (some (37, true)) (.fad 13 (.t 41))), (.op (some 43) (some (37,
  true)) (.iada 13 1 (.t 42) (.t 40))), (.op (some 44) (some (37, true)) (.ld (.t 43))), (.op (some 45) (some (37, true)) (.bin .lss (.t 38) (.t 44))), (.op (some 46) none (.pick
  (.t 37) (.t 45) (.c (.bool false))))]) (.cond (.t 46) (.seq (.reg [(.op (some 47) none (.mv (.t 0))), (.op (some 48) none (.nck (.t 47))), (.op (some 49) none (.fad 39
  (.t 48))), (.op (some 50) none (.ld (.t 49))), (.op (some 51) none (.mv (.t 0))), (.op (some 52) none (.mv (.t 7))), (.op (some 53) none (.nck (.t 51))), (.op (some 54) none
  (.fad 26 (.t 53))), (.op (some 55) none (.iada 13 1 (.t 54) (.t 52))), (.op (some 56) none (.ld (.t 55))), (.op (some 57) none (.mv (.t 10))), (.op (some 58) none (.bin .add
  (.t 56) (.t 57))), (.op (some 59) none (.iad 1 (.t 50) (.t 58))), (.op (some 60) none (.ld (.t 59))), (.op (some 4) none (.mv (.t 60))), (.op (some 5) none (.mv (.c
  (.bool true))))]) .ret) .skip))))))) (.reg [(.op (some 13) none (.mv (.t 7))), (.op (some 14) none (.bin .add (.t 13) (.c (.int .i64 1)))), (.op (some 7) none (.mv
  (.t 14)))])))))) (.seq (.reg [(.op (some 4) none (.mv (.c (.int .u8 0)))), (.op (some 5) none (.mv (.c (.bool false))))]) .ret)))), [(.t 4), (.t 5)]⟩
def k76 : KFunc := ⟨16, (.seq (.reg [(.op (some 2) none (.mv (.c (.int .i64 0))))]) (.seq (.seq (.reg [(.op (some 3) none (.mv (.t 0))), (.op (some 4) none (.eqv .ptr false (.t 3)
  (.c (.pointer none))))]) (.cond (.t 4) (.seq (.reg [(.op (some 2) none (.mv (.c (.int .i64 0))))]) .ret) .skip)) (.seq (.reg [(.op (some 5) none (.mv (.t 0))),
  (.op (some 6) none (.nck (.t 5))), (.op (some 7) none (.fad 0 (.t 6))), (.op (some 8) none (.ld (.t 7))), (.op (some 9) none (.lenL (.t 8))), (.op (some 10) none (.bin .mul (.c
  (.int .i64 8)) (.t 9))), (.op (some 11) none (.mv (.t 0))), (.op (some 12) none (.nck (.t 11))), (.op (some 13) none (.fad 1 (.t 12))), (.op (some 14) none (.ld (.t 13))),
  (.op (some 15) none (.bin .sub (.t 10) (.t 14))), (.op (some 2) none (.mv (.t 15)))]) .ret))), [(.t 2)]⟩
def k77 : KFunc := ⟨73, (.seq (.reg [(.op (some 4) none (.mv (.c (.int .u32 0)))), (.op (some 5) none (.mv (.c (.bool false))))]) (.seq (.seq (.reg [(.op (some 11) none (.mv
  (.t 0))), (.op (some 12) none (.eqv .ptr false (.t 11) (.c (.pointer none)))), (.op (some 13) none (.mv (.t 12))), (.op (some 14) (some (13, false)) (.mv (.t 1))),
  (.op (some 15) (some (13, false)) (.call 88 [(.t 14)])), (.op (some 16) (some (13, false)) (.un .not (.t 15))), (.op (some 17) none (.pick (.t 13) (.c (.bool true)) (.t 16))),
  (.op (some 18) none (.mv (.t 17))), (.op (some 19) (some (18, false)) (.mv (.t 1))), (.op (some 20) (some (18, false)) (.mv (.t 0))), (.op (some 21) (some (18, false))
  (.call 76 [(.t 20)])), (.op (some 22) (some (18, false)) (.bin .gtr (.t 19) (.t 21))), (.op (some 23) none (.pick (.t 18) (.c (.bool true)) (.t 22)))]) (.cond (.t 23) (.seq
  (.reg [(.op (some 4) none (.mv (.c (.int .u32 0)))), (.op (some 5) none (.mv (.c (.bool false))))]) .ret) .skip)) (.seq (.reg [(.op (some 6) none (.mv (.c (.int .u32 0))))])
  (.seq (.seq (.reg [(.op (some 7) none (.mv (.c (.int .i64 0))))]) (.block 0 (.loop (.seq (.seq (.reg [(.op (some 24) none (.mv (.t 7))), (.op (some 25) none (.mv (.t 1))),
  (.op (some 26) none (.bin .lss (.t 24) (.t 25)))]) (.cond (.t 26) .skip (.exit 0))) (.block 1 (.seq (.reg [(.op (some 27) none (.mv (.t 0))), (.op (some 28) none (.nck
  (.t 27))), (.op (some 29) none (.fad 1 (.t 28))), (.op (some 30) none (.ld (.t 29))), (.op (some 31) none (.bin .and (.t 30) (.c (.int .i64 7)))), (.op (some 8) none (.mv
  (.t 31)))]) (.seq (.reg [(.op (some 32) none (.mv (.t 1))), (.op (some 33) none (.mv (.t 7))), (.op (some 34) none (.bin .sub (.t 32) (.t 33))), (.op (some 35) none (.mv
  (.t 8))), (.op (some 36) none (.bin .sub (.c (.int .i64 8)) (.t 35))), (.op (some 37) none (.mn (.t 34) [(.t 36)])), (.op (some 9) none (.mv (.t 37)))]) (.seq
  (.reg [(.op (some 38) none (.mv (.t 0))), (.op (some 39) none (.nck (.t 38))), (.op (some 40) none (.fad 0 (.t 39))), (.op (some 41) none (.ld (.t 40))), (.op (some 42) none
  (.mv (.t 0))), (.op (some 43) none (.nck (.t 42))), (.op (some 44) none (.fad 1 (.t 43))), (.op (some 45) none (.ld (.t 44))), (.op (some 46) none (.bin .shr (.t 45) (.c
  (.int .u64 3)))), (.op (some 47) none (.iad 1 (.t 41) (.t 46))), (.op (some 48) none (.ld (.t 47))), (.op (some 49) none (.mv (.t 8))), (.op (some 50) none (.bin .shr (.t 48)
  (.t 49))), (.op (some 51) none (.cvt .u32 (.t 50))), (.op (some 52) none (.mv (.t 9))), (.op (some 53) none (.bin .shl (.c (.int .u32 1)) (.t 52))), (.op (some 54) none
  (.bin .sub (.t 53) (.c (.int .u32 1)))), (.op (some 55) none (.bin .and (.t 51) (.t 54))), (.op (some 10) none (.mv (.t 55)))]) (.seq (.reg [(.op (some 56) none (.mv (.t 6))),
  (.op (some 57) none (.mv (.t 10))), (.op (some 58) none (.mv (.t 7))), (.op (some 59) none (.bin .shl (.t 57) (.t 58))), (.op (some 60) none (.bin .or (.t 56) (.t 59))),
  (.op (some 6) none (.mv (.t 60)))]) (.seq (.reg [(.op (some 61) none (.mv (.t 7))), (.op (some 62) none (.mv (.t 9))), (.op (some 63) none (.bin .add (.t 61) (.t 62))),
  (.op (some 7) none (.mv (.t 63)))]) (.reg [(.op (some 64) none (.mv (.t 0))), (.op (some 65) none (.nck (.t 64))), (.op (some 66) none (.fad 1 (.t 65))), (.op (some 67) none
  (.ld (.t 66))), (.op (some 68) none (.mv (.t 9))), (.op (some 69) none (.bin .add (.t 67) (.t 68))), (.op (some 70) none (.nck (.t 64))), (.op (some 71) none (.fad 1 (.t 70))),
  (.op none none (.st (.t 71) (.t 69)))]))))))))))) (.seq (.reg [(.op (some 72) none (.mv (.t 6))), (.op (some 4) none (.mv (.t 72))), (.op (some 5) none (.mv (.c
  (.bool true))))]) .ret))))), [(.t 4), (.t 5)]⟩
def k87 : KFunc := ⟨21, (.seq (.reg [(.op (some 2) none (.mv (.c (.bool false))))]) (.seq (.seq (.reg [(.op (some 5) none (.mv (.t 0))), (.op (some 6) none (.lenL (.t 5))),
  (.op (some 7) none (.mv (.c (.int .i64 0))))]) (.block 0 (.loop (.seq (.reg [(.op (some 8) none (.bin .lss (.t 7) (.t 6)))]) (.seq (.cond (.t 8) .skip (.exit 0)) (.seq (.block 1
  (.seq (.reg [(.op (some 9) none (.iad 1 (.t 5) (.t 7))), (.op (some 10) none (.ld (.t 9))), (.op (some 4) none (.mv (.t 10)))]) (.seq (.reg [(.op (some 11) none (.mv (.t 4))),
  (.op (some 12) none (.bin .lss (.t 11) (.c (.int .i64 0)))), (.op (some 13) none (.mv (.t 12))), (.op (some 14) (some (13, false)) (.mv (.t 4))), (.op (some 15) (some (13,
  false)) (.bin .gtr (.t 14) (.c (.int .i64 11)))), (.op (some 16) none (.pick (.t 13) (.c (.bool true)) (.t 15)))]) (.cond (.t 16) (.seq (.reg [(.op (some 2) none (.mv (.c
  (.bool false))))]) .ret) .skip)))) (.reg [(.op (some 17) none (.bin .add (.t 7) (.c (.int .i64 1)))), (.op (some 7) none (.mv (.t 17)))]))))))) (.seq (.reg [(.op (some 18) none
  (.mv (.t 0))), (.op (some 19) none (.lenL (.t 18))), (.op (some 20) none (.bin .leq (.t 19) (.c (.int .i64 256)))), (.op (some 2) none (.mv (.t 20)))]) .ret))), [(.t 2)]⟩
def k88 : KFunc := ⟨9, (.seq (.reg [(.op (some 2) none (.mv (.c (.bool false))))]) (.seq (.reg [(.op (some 3) none (.mv (.t 0))), (.op (some 4) none (.bin .geq (.t 3) (.c
  (.int .i64 0)))), (.op (some 5) none (.mv (.t 4))), (.op (some 6) (some (5, true)) (.mv (.t 0))), (.op (some 7) (some (5, true)) (.bin .leq (.t 6) (.c (.int .i64 32)))),
  (.op (some 8) none (.pick (.t 5) (.t 7) (.c (.bool false)))), (.op (some 2) none (.mv (.t 8)))]) .ret)), [(.t 2)]⟩
def k30 : KFunc := ⟨39, (.seq (.reg [(.op (some 2) none (.mv (.c (.slice none 0 0)))), (.op (some 3) none (.mv (.c (.bool false))))]) (.seq (.seq (.reg [(.op (some 8) none (.mv
  (.t 0))), (.op (some 9) none (.call 52 [(.t 8)])), (.op (some 10) none (.un .not (.t 9)))]) (.cond (.t 10) (.seq (.reg [(.op (some 2) none (.mv (.c (.slice none 0 0)))),
  (.op (some 3) none (.mv (.c (.bool false))))]) .ret) .skip)) (.seq (.reg [(.op (some 12) none (.mv (.t 0))), (.op (some 13) none (.call 53 [(.t 12)])), (.op (some 11) none (.mv
  (.t 13))), (.op (some 14) none (.xt (.t 11) 0)), (.op (some 15) none (.xt (.t 11) 1)), (.op (some 4) none (.mv (.t 14))), (.op (some 5) none (.mv (.t 15)))]) (.seq
  (.reg [(.op (some 16) none (.mv (.t 0))), (.op (some 17) none (.lenL (.t 16))), (.op (some 18) none (.mks 3 [(.int .i64 0)] 8 (.t 17) (.t 17))), (.op (some 6) none
  (.alloc 42 [(.slice none 0 0)])), (.op none none (.st (.t 6) (.t 18)))]) (.seq (.seq (.reg [(.op (some 19) none (.mv (.t 4))), (.op (some 20) none (.nck (.t 19))),
  (.op (some 21) none (.fad 2 (.t 20))), (.op (some 22) none (.ld (.t 21))), (.op (some 23) none (.bin .geq (.t 22) (.c (.int .i64 0))))]) (.cond (.t 23) (.seq
  (.reg [(.op (some 24) none (.ld (.t 6))), (.op (some 25) none (.mv (.t 4))), (.op (some 26) none (.nck (.t 25))), (.op (some 27) none (.fad 2 (.t 26))), (.op (some 28) none (.ld
  (.t 27))), (.op (some 29) none (.iad 1 (.t 24) (.t 28))), (.op none none (.st (.t 29) (.c (.int .i64 1))))]) (.seq (.reg [(.op (some 30) none (.ld (.t 6))), (.op (some 2) none
  (.mv (.t 30))), (.op (some 3) none (.mv (.c (.bool true))))]) .ret)) .skip)) (.seq (.reg [(.op (some 7) none (.alloc 3 [(.int .i64 0)])), (.op none none (.st (.t 7) (.c
  (.int .i64 0))))]) (.seq (.reg [(.op (some 31) none (.mv (.t 4))), (.op (some 32) none (.mkf (.func 55) [] [(.t 6), (.t 7)])), (.op (some 33) none (.call 54 [(.t 31), (.c
  (.int .i64 0)), (.t 32)]))]) (.seq (.seq (.reg [(.op (some 34) none (.ld (.t 7))), (.op (some 35) none (.bin .gtr (.t 34) (.c (.int .i64 11))))]) (.cond (.t 35) (.seq
  (.reg [(.op (some 36) none (.mv (.t 0))), (.op (some 37) none (.call 56 [(.t 36)])), (.op (some 2) none (.mv (.t 37))), (.op (some 3) none (.mv (.c
  (.bool true))))]) .ret) .skip)) (.seq (.reg [(.op (some 38) none (.ld (.t 6))), (.op (some 2) none (.mv (.t 38))), (.op (some 3) none (.mv (.c (.bool true))))]) .ret))))))))),
  [(.t 2), (.t 3)]⟩
def k31 : KFunc := ⟨28, (.seq (.reg [(.op (some 2) none (.mv (.c (.slice none 0 0))))]) (.seq (.reg [(.op (some 3) none (.mv (.c (.slice none 0 0))))]) (.seq (.seq
  (.reg [(.op (some 6) none (.mv (.t 0))), (.op (some 7) none (.lenL (.t 6))), (.op (some 8) none (.mv (.c (.int .i64 0))))]) (.block 0 (.loop (.seq (.reg [(.op (some 9) none
  (.bin .lss (.t 8) (.t 7)))]) (.seq (.cond (.t 9) .skip (.exit 0)) (.seq (.block 1 (.seq (.reg [(.op (some 10) none (.iad 1 (.t 6) (.t 8))), (.op (some 11) none (.ld (.t 10))),
  (.op (some 5) none (.mv (.t 11)))]) (.seq (.block 2 (.loop (.seq (.seq (.reg [(.op (some 12) none (.mv (.t 3))), (.op (some 13) none (.lenL (.t 12))), (.op (some 14) none (.mv
  (.t 5))), (.op (some 15) none (.cvt .i64 (.t 14))), (.op (some 16) none (.bin .leq (.t 13) (.t 15)))]) (.cond (.t 16) .skip (.exit 2))) (.block 3 (.reg [(.op (some 17) none (.mv
  (.t 3))), (.op (some 18) none (.bsl 3 1 [(.int .i64 0)] [(0, (1, (.c (.int .i64 0))))])), (.op (some 19) none (.app 3 1 8 (.t 17) (.t 18))), (.op (some 3) none (.mv
  (.t 19)))]))))) (.reg [(.op (some 20) none (.mv (.t 3))), (.op (some 21) none (.mv (.t 5))), (.op (some 22) none (.iad 1 (.t 20) (.t 21))), (.op (some 23) none (.ld (.t 22))),
  (.op (some 24) none (.bin .add (.t 23) (.c (.int .i64 1)))), (.op (some 25) none (.iad 1 (.t 20) (.t 21))), (.op none none (.st (.t 25) (.t 24)))])))) (.reg [(.op (some 26) none
  (.bin .add (.t 8) (.c (.int .i64 1)))), (.op (some 8) none (.mv (.t 26)))]))))))) (.seq (.reg [(.op (some 27) none (.mv (.t 3))), (.op (some 2) none (.mv (.t 27)))]) .ret)))),
  [(.t 2)]⟩
def k52 : KFunc := ⟨24, (.seq (.reg [(.op (some 2) none (.mv (.c (.bool false))))]) (.seq (.seq (.reg [(.op (some 5) none (.mv (.t 0))), (.op (some 6) none (.lenL (.t 5))),
  (.op (some 7) none (.bin .gtr (.t 6) (.c (.int .i64 256))))]) (.cond (.t 7) (.seq (.reg [(.op (some 2) none (.mv (.c (.bool false))))]) .ret) .skip)) (.seq (.seq
  (.reg [(.op (some 8) none (.mv (.t 0))), (.op (some 9) none (.lenL (.t 8))), (.op (some 10) none (.mv (.c (.int .i64 0))))]) (.block 0 (.loop (.seq (.reg [(.op (some 11) none
  (.bin .lss (.t 10) (.t 9)))]) (.seq (.cond (.t 11) .skip (.exit 0)) (.seq (.block 1 (.seq (.reg [(.op (some 12) none (.iad 1 (.t 8) (.t 10))), (.op (some 13) none (.ld
  (.t 12))), (.op (some 4) none (.mv (.t 13)))]) (.seq (.reg [(.op (some 14) none (.mv (.t 4))), (.op (some 15) none (.bin .lss (.t 14) (.c (.int .i64 0)))), (.op (some 16) none
  (.mv (.t 15))), (.op (some 17) (some (16, false)) (.mv (.t 4))), (.op (some 18) (some (16, false)) (.bin .gtr (.t 17) (.c (.int .i64 1048576)))), (.op (some 19) none (.pick
  (.t 16) (.c (.bool true)) (.t 18)))]) (.cond (.t 19) (.seq (.reg [(.op (some 2) none (.mv (.c (.bool false))))]) .ret) .skip)))) (.reg [(.op (some 20) none (.bin .add (.t 10)
  (.c (.int .i64 1)))), (.op (some 10) none (.mv (.t 20)))]))))))) (.seq (.reg [(.op (some 21) none (.mv (.t 0))), (.op (some 22) none (.call 78 [(.t 21)])), (.op (some 23) none
  (.bin .gtr (.t 22) (.c (.int .i64 0)))), (.op (some 2) none (.mv (.t 23)))]) .ret)))), [(.t 2)]⟩
def k53 : KFunc := ⟨78, (.seq (.reg [(.op (some 2) none (.mv (.c (.pointer none)))), (.op (some 3) none (.mv (.c (.int .i64 0))))]) (.seq (.reg [(.op (some 12) none
  (.bsl 82 0 [] [])), (.op (some 13) none (.box 113 (.t 12))), (.op (some 4) none (.mv (.t 13)))]) (.seq (.seq (.reg [(.op (some 14) none (.mv (.t 0))), (.op (some 15) none (.lenL
  (.t 14))), (.op (some 16) none (.mv (.c (.int .i64 0))))]) (.block 0 (.loop (.seq (.reg [(.op (some 17) none (.bin .lss (.t 16) (.t 15)))]) (.seq (.cond (.t 17) .skip (.exit 0))
  (.seq (.block 1 (.seq (.reg [(.op (some 18) none (.mv (.t 16))), (.op (some 19) none (.iad 1 (.t 14) (.t 16))), (.op (some 20) none (.ld (.t 19))), (.op (some 5) none (.mv
  (.t 18))), (.op (some 6) none (.mv (.t 20)))]) (.seq (.reg [(.op (some 21) none (.mv (.t 6))), (.op (some 22) none (.bin .gtr (.t 21) (.c (.int .i64 0))))]) (.cond (.t 22)
  (.reg [(.op (some 23) none (.mv (.t 4))), (.op (some 24) none (.mv (.t 4))), (.op (some 25) none (.nck (.t 24))), (.op (some 26) none (.ld (.t 25))), (.op (some 27) none (.mv
  (.t 6))), (.op (some 28) none (.mv (.t 5))), (.op (some 29) none (.mv (.t 5))), (.op (some 30) none (.build [(.int .i64 0), (.int .i64 0), (.int .i64 0), (.pointer none),
  (.pointer none)] [(0, (1, (.t 27))), (1, (1, (.t 28))), (2, (1, (.t 29)))])), (.op (some 31) none (.box 86 (.t 30))), (.op (some 32) none (.bsl 82 1 [(.pointer none)] [(0, (1,
  (.t 31)))])), (.op (some 33) none (.app 82 1 8 (.t 26) (.t 32))), (.op (some 34) none (.nck (.t 23))), (.op none none (.st (.t 34) (.t 33)))]) .skip))))
  (.reg [(.op (some 35) none (.bin .add (.t 16) (.c (.int .i64 1)))), (.op (some 16) none (.mv (.t 35)))]))))))) (.seq (.reg [(.op (some 36) none (.mv (.t 4))),
  (.op (some 37) none (.mki 111 (.t 36))), (.op (some 38) none (.call 79 [(.t 37)]))]) (.seq (.reg [(.op (some 7) none (.mv (.c (.int .i64 0))))]) (.seq (.seq
  (.reg [(.op (some 8) none (.mv (.c (.int .i64 256))))]) (.block 2 (.loop (.seq (.seq (.reg [(.op (some 39) none (.mv (.t 4))), (.op (some 40) none (.nck (.t 39))),
  (.op (some 41) none (.ld (.t 40))), (.op (some 42) none (.call 80 [(.t 41)])), (.op (some 43) none (.bin .gtr (.t 42) (.c (.int .i64 1))))]) (.cond (.t 43) .skip (.exit 2)))
  (.seq (.block 3 (.seq (.reg [(.op (some 46) none (.mv (.t 4))), (.op (some 47) none (.call 81 [(.t 46)])), (.op (some 48) none (.mv (.t 4))), (.op (some 49) none
  (.call 81 [(.t 48)])), (.op (some 9) none (.mv (.t 47))), (.op (some 10) none (.mv (.t 49)))]) (.seq (.reg [(.op (some 50) none (.mv (.t 9))), (.op (some 51) none (.nck
  (.t 50))), (.op (some 52) none (.fad 0 (.t 51))), (.op (some 53) none (.ld (.t 52))), (.op (some 54) none (.mv (.t 10))), (.op (some 55) none (.nck (.t 54))),
  (.op (some 56) none (.fad 0 (.t 55))), (.op (some 57) none (.ld (.t 56))), (.op (some 58) none (.bin .add (.t 53) (.t 57))), (.op (some 59) none (.mv (.t 8))),
  (.op (some 60) none (.mv (.t 9))), (.op (some 61) none (.mv (.t 10))), (.op (some 62) none (.build [(.int .i64 0), (.int .i64 0), (.int .i64 0), (.pointer none),
  (.pointer none)] [(0, (1, (.t 58))), (1, (1, (.t 59))), (2, (1, (.c (.int .i64 (-1))))), (3, (1, (.t 60))), (4, (1, (.t 61)))])), (.op (some 63) none (.box 86 (.t 62))),
  (.op (some 11) none (.mv (.t 63)))]) (.seq (.reg [(.op (some 64) none (.mv (.t 7))), (.op (some 65) none (.mv (.t 11))), (.op (some 66) none (.nck (.t 65))), (.op (some 67) none
  (.fad 0 (.t 66))), (.op (some 68) none (.ld (.t 67))), (.op (some 69) none (.bin .add (.t 64) (.t 68))), (.op (some 7) none (.mv (.t 69)))]) (.reg [(.op (some 70) none (.mv
  (.t 4))), (.op (some 71) none (.mki 111 (.t 70))), (.op (some 72) none (.mv (.t 11))), (.op (some 73) none (.mki 82 (.t 72))), (.op (some 74) none (.call 82 [(.t 71),
  (.t 73)]))]))))) (.reg [(.op (some 44) none (.mv (.t 8))), (.op (some 45) none (.bin .add (.t 44) (.c (.int .i64 1)))), (.op (some 8) none (.mv (.t 45)))])))))) (.seq
  (.reg [(.op (some 75) none (.mv (.t 4))), (.op (some 76) none (.call 81 [(.t 75)])), (.op (some 77) none (.mv (.t 7))), (.op (some 2) none (.mv (.t 76))), (.op (some 3) none
  (.mv (.t 77)))]) .ret))))))), [(.t 2), (.t 3)]⟩
def k54 : KFunc := ⟨34, (.seq (.seq (.reg [(.op (some 6) none (.mv (.t 0))), (.op (some 7) none (.nck (.t 6))), (.op (some 8) none (.fad 2 (.t 7))), (.op (some 9) none (.ld
  (.t 8))), (.op (some 10) none (.bin .geq (.t 9) (.c (.int .i64 0))))]) (.cond (.t 10) (.seq (.reg [(.op (some 11) none (.mv (.t 2))), (.op (some 12) none (.mv (.t 0))),
  (.op (some 13) none (.nck (.t 12))), (.op (some 14) none (.fad 2 (.t 13))), (.op (some 15) none (.ld (.t 14))), (.op (some 16) none (.mv (.t 1))), (.op (some 17) none (.callv
  (.t 11) [(.t 15), (.t 16)]))]) .ret) .skip)) (.seq (.reg [(.op (some 18) none (.mv (.t 0))), (.op (some 19) none (.nck (.t 18))), (.op (some 20) none (.fad 3 (.t 19))),
  (.op (some 21) none (.ld (.t 20))), (.op (some 22) none (.mv (.t 1))), (.op (some 23) none (.bin .add (.t 22) (.c (.int .i64 1)))), (.op (some 24) none (.mv (.t 2))),
  (.op (some 25) none (.call 54 [(.t 21), (.t 23), (.t 24)]))]) (.reg [(.op (some 26) none (.mv (.t 0))), (.op (some 27) none (.nck (.t 26))), (.op (some 28) none (.fad 4
  (.t 27))), (.op (some 29) none (.ld (.t 28))), (.op (some 30) none (.mv (.t 1))), (.op (some 31) none (.bin .add (.t 30) (.c (.int .i64 1)))), (.op (some 32) none (.mv (.t 2))),
  (.op (some 33) none (.call 54 [(.t 29), (.t 31), (.t 32)]))]))), []⟩
def k55 : KFunc := ⟨13, (.seq (.reg [(.op (some 6) none (.ld (.t 2))), (.op (some 7) none (.mv (.t 0))), (.op (some 8) none (.mv (.t 1))), (.op (some 9) none (.iad 1 (.t 6)
  (.t 7))), (.op none none (.st (.t 9) (.t 8)))]) (.reg [(.op (some 10) none (.ld (.t 3))), (.op (some 11) none (.mv (.t 1))), (.op (some 12) none (.mx (.t 10) [(.t 11)])),
  (.op none none (.st (.t 3) (.t 12)))])), []⟩
def k78 : KFunc := ⟨17, (.seq (.reg [(.op (some 2) none (.mv (.c (.int .i64 0))))]) (.seq (.reg [(.op (some 3) none (.mv (.c (.int .i64 0))))]) (.seq (.seq
  (.reg [(.op (some 6) none (.mv (.t 0))), (.op (some 7) none (.lenL (.t 6))), (.op (some 8) none (.mv (.c (.int .i64 0))))]) (.block 0 (.loop (.seq (.reg [(.op (some 9) none
  (.bin .lss (.t 8) (.t 7)))]) (.seq (.cond (.t 9) .skip (.exit 0)) (.seq (.block 1 (.seq (.reg [(.op (some 10) none (.iad 1 (.t 6) (.t 8))), (.op (some 11) none (.ld (.t 10))),
  (.op (some 5) none (.mv (.t 11)))]) (.reg [(.op (some 12) none (.mv (.t 3))), (.op (some 13) none (.mv (.t 5))), (.op (some 14) none (.bin .add (.t 12) (.t 13))),
  (.op (some 3) none (.mv (.t 14)))]))) (.reg [(.op (some 15) none (.bin .add (.t 8) (.c (.int .i64 1)))), (.op (some 8) none (.mv (.t 15)))]))))))) (.seq
  (.reg [(.op (some 16) none (.mv (.t 3))), (.op (some 2) none (.mv (.t 16)))]) .ret)))), [(.t 2)]⟩
def k79 : KFunc := ⟨17, (.seq (.reg [(.op (some 4) none (.mv (.t 0))), (.op (some 5) none (.inv (.t 4) "Len" [])), (.op (some 2) none (.mv (.t 5)))]) (.seq
  (.reg [(.op (some 6) none (.mv (.t 2))), (.op (some 7) none (.bin .quo (.t 6) (.c (.int .i64 2)))), (.op (some 8) none (.bin .sub (.t 7) (.c (.int .i64 1)))), (.op (some 3) none
  (.mv (.t 8)))]) (.block 0 (.loop (.seq (.seq (.reg [(.op (some 9) none (.mv (.t 3))), (.op (some 10) none (.bin .geq (.t 9) (.c (.int .i64 0))))]) (.cond (.t 10) .skip
  (.exit 0))) (.seq (.block 1 (.reg [(.op (some 13) none (.mv (.t 0))), (.op (some 14) none (.mv (.t 3))), (.op (some 15) none (.mv (.t 2))), (.op (some 16) none
  (.call 91 [(.t 13), (.t 14), (.t 15)]))])) (.reg [(.op (some 11) none (.mv (.t 3))), (.op (some 12) none (.bin .sub (.t 11) (.c (.int .i64 1)))), (.op (some 3) none (.mv
  (.t 12)))]))))))), []⟩
def k80 : KFunc := ⟨5, (.seq (.reg [(.op (some 2) none (.mv (.c (.int .i64 0))))]) (.seq (.reg [(.op (some 3) none (.mv (.t 0))), (.op (some 4) none (.lenL (.t 3))),
  (.op (some 2) none (.mv (.t 4)))]) .ret)), [(.t 2)]⟩
def k81 : KFunc := ⟨13, (.seq (.reg [(.op (some 2) none (.mv (.c (.pointer none))))]) (.seq (.reg [(.op (some 6) none (.mv (.t 0))), (.op (some 7) none (.mki 111 (.t 6))),
  (.op (some 8) none (.call 92 [(.t 7)])), (.op (some 9) none (.tas 82 (.pointer none) true (.t 8))), (.op (some 5) none (.mv (.t 9))), (.op (some 10) none (.xt (.t 5) 0)),
  (.op (some 11) none (.xt (.t 5) 1)), (.op (some 3) none (.mv (.t 10))), (.op (some 4) none (.mv (.t 11)))]) (.seq (.reg [(.op (some 12) none (.mv (.t 3))), (.op (some 2) none
  (.mv (.t 12)))]) .ret))), [(.t 2)]⟩
def k82 : KFunc := ⟨12, (.seq (.reg [(.op (some 4) none (.mv (.t 0))), (.op (some 5) none (.mv (.t 1))), (.op (some 6) none (.inv (.t 4) "Push" [(.t 5)]))])
  (.reg [(.op (some 7) none (.mv (.t 0))), (.op (some 8) none (.mv (.t 0))), (.op (some 9) none (.inv (.t 8) "Len" [])), (.op (some 10) none (.bin .sub (.t 9) (.c
  (.int .i64 1)))), (.op (some 11) none (.call 93 [(.t 7), (.t 10)]))])), []⟩
def k86 : KFunc := ⟨20, (.seq (.reg [(.op (some 4) none (.mv (.c (.int .i64 0))))]) (.seq (.reg [(.op (some 7) none (.mv (.t 0))), (.op (some 8) none (.call 96 [(.t 7)])),
  (.op (some 5) none (.mv (.t 8)))]) (.seq (.reg [(.op (some 9) none (.mv (.t 1))), (.op (some 10) none (.call 96 [(.t 9)])), (.op (some 6) none (.mv (.t 10)))]) (.seq (.seq
  (.reg [(.op (some 11) none (.mv (.t 5)))]) (.cond (.t 11) (.seq (.seq (.reg [(.op (some 12) none (.mv (.t 6)))]) (.cond (.t 12) (.seq (.reg [(.op (some 4) none (.mv (.c
  (.int .i64 0))))]) .ret) .skip)) (.seq (.reg [(.op (some 4) none (.mv (.c (.int .i64 (-1)))))]) .ret)) .skip)) (.seq (.seq (.reg [(.op (some 13) none (.mv (.t 6)))]) (.cond
  (.t 13) (.seq (.reg [(.op (some 4) none (.mv (.c (.int .i64 1))))]) .ret) .skip)) (.seq (.seq (.reg [(.op (some 14) none (.mv (.t 0))), (.op (some 15) none (.mv (.t 1))),
  (.op (some 16) none (.bin .lss (.t 14) (.t 15)))]) (.cond (.t 16) (.seq (.reg [(.op (some 4) none (.mv (.c (.int .i64 (-1)))))]) .ret) .skip)) (.seq (.seq
  (.reg [(.op (some 17) none (.mv (.t 0))), (.op (some 18) none (.mv (.t 1))), (.op (some 19) none (.bin .gtr (.t 17) (.t 18)))]) (.cond (.t 19) (.seq (.reg [(.op (some 4) none
  (.mv (.c (.int .i64 1))))]) .ret) .skip)) (.seq (.reg [(.op (some 4) none (.mv (.c (.int .i64 0))))]) .ret)))))))), [(.t 4)]⟩
def k91 : KFunc := ⟨48, (.seq (.reg [(.op (some 6) none (.mv (.c (.bool false))))]) (.seq (.reg [(.op (some 11) none (.mv (.t 1))), (.op (some 7) none (.mv (.t 11)))]) (.seq
  (.block 0 (.loop (.block 1 (.seq (.reg [(.op (some 12) none (.mv (.t 7))), (.op (some 13) none (.bin .mul (.c (.int .i64 2)) (.t 12))), (.op (some 14) none (.bin .add (.t 13)
  (.c (.int .i64 1)))), (.op (some 8) none (.mv (.t 14)))]) (.seq (.seq (.reg [(.op (some 15) none (.mv (.t 8))), (.op (some 16) none (.mv (.t 2))), (.op (some 17) none (.bin .geq
  (.t 15) (.t 16))), (.op (some 18) none (.mv (.t 17))), (.op (some 19) (some (18, false)) (.mv (.t 8))), (.op (some 20) (some (18, false)) (.bin .lss (.t 19) (.c
  (.int .i64 0)))), (.op (some 21) none (.pick (.t 18) (.c (.bool true)) (.t 20)))]) (.cond (.t 21) (.exit 0) .skip)) (.seq (.reg [(.op (some 22) none (.mv (.t 8))),
  (.op (some 9) none (.mv (.t 22)))]) (.seq (.seq (.reg [(.op (some 23) none (.mv (.t 8))), (.op (some 24) none (.bin .add (.t 23) (.c (.int .i64 1)))), (.op (some 10) none (.mv
  (.t 24)))]) (.seq (.reg [(.op (some 25) none (.mv (.t 10))), (.op (some 26) none (.mv (.t 2))), (.op (some 27) none (.bin .lss (.t 25) (.t 26))), (.op (some 28) none (.mv
  (.t 27))), (.op (some 29) (some (28, true)) (.mv (.t 0))), (.op (some 30) (some (28, true)) (.mv (.t 10))), (.op (some 31) (some (28, true)) (.mv (.t 8))),
  (.op (some 32) (some (28, true)) (.inv (.t 29) "Less" [(.t 30), (.t 31)])), (.op (some 33) none (.pick (.t 28) (.t 32) (.c (.bool false))))]) (.cond (.t 33)
  (.reg [(.op (some 34) none (.mv (.t 10))), (.op (some 9) none (.mv (.t 34)))]) .skip))) (.seq (.seq (.reg [(.op (some 35) none (.mv (.t 0))), (.op (some 36) none (.mv (.t 9))),
  (.op (some 37) none (.mv (.t 7))), (.op (some 38) none (.inv (.t 35) "Less" [(.t 36), (.t 37)])), (.op (some 39) none (.un .not (.t 38)))]) (.cond (.t 39) (.exit 0) .skip))
  (.seq (.reg [(.op (some 40) none (.mv (.t 0))), (.op (some 41) none (.mv (.t 7))), (.op (some 42) none (.mv (.t 9))), (.op (some 43) none (.inv (.t 40) "Swap" [(.t 41),
  (.t 42)]))]) (.reg [(.op (some 44) none (.mv (.t 9))), (.op (some 7) none (.mv (.t 44)))])))))))))) (.seq (.reg [(.op (some 45) none (.mv (.t 7))), (.op (some 46) none (.mv
  (.t 1))), (.op (some 47) none (.bin .gtr (.t 45) (.t 46))), (.op (some 6) none (.mv (.t 47)))]) .ret)))), [(.t 6)]⟩
def k92 : KFunc := ⟨15, (.seq (.reg [(.op (some 2) none (.mv (.c .nilIface)))]) (.seq (.reg [(.op (some 4) none (.mv (.t 0))), (.op (some 5) none (.inv (.t 4) "Len" [])),
  (.op (some 6) none (.bin .sub (.t 5) (.c (.int .i64 1)))), (.op (some 3) none (.mv (.t 6)))]) (.seq (.reg [(.op (some 7) none (.mv (.t 0))), (.op (some 8) none (.mv (.t 3))),
  (.op (some 9) none (.inv (.t 7) "Swap" [(.c (.int .i64 0)), (.t 8)]))]) (.seq (.reg [(.op (some 10) none (.mv (.t 0))), (.op (some 11) none (.mv (.t 3))), (.op (some 12) none
  (.call 91 [(.t 10), (.c (.int .i64 0)), (.t 11)]))]) (.seq (.reg [(.op (some 13) none (.mv (.t 0))), (.op (some 14) none (.inv (.t 13) "Pop" [])), (.op (some 2) none (.mv
  (.t 14)))]) .ret))))), [(.t 2)]⟩
def k93 : KFunc := ⟨23, (.block 0 (.loop (.block 1 (.seq (.reg [(.op (some 5) none (.mv (.t 1))), (.op (some 6) none (.bin .sub (.t 5) (.c (.int .i64 1)))), (.op (some 7) none
  (.bin .quo (.t 6) (.c (.int .i64 2)))), (.op (some 4) none (.mv (.t 7)))]) (.seq (.seq (.reg [(.op (some 8) none (.mv (.t 4))), (.op (some 9) none (.mv (.t 1))),
  (.op (some 10) none (.bin .eql (.t 8) (.t 9))), (.op (some 11) none (.mv (.t 10))), (.op (some 12) (some (11, false)) (.mv (.t 0))), (.op (some 13) (some (11, false)) (.mv
  (.t 1))), (.op (some 14) (some (11, false)) (.mv (.t 4))), (.op (some 15) (some (11, false)) (.inv (.t 12) "Less" [(.t 13), (.t 14)])), (.op (some 16) (some (11, false))
  (.un .not (.t 15))), (.op (some 17) none (.pick (.t 11) (.c (.bool true)) (.t 16)))]) (.cond (.t 17) (.exit 0) .skip)) (.seq (.reg [(.op (some 18) none (.mv (.t 0))),
  (.op (some 19) none (.mv (.t 4))), (.op (some 20) none (.mv (.t 1))), (.op (some 21) none (.inv (.t 18) "Swap" [(.t 19), (.t 20)]))]) (.reg [(.op (some 22) none (.mv (.t 4))),
  (.op (some 1) none (.mv (.t 22)))]))))))), []⟩
def k96 : KFunc := ⟨6, (.seq (.reg [(.op (some 2) none (.mv (.c (.bool false))))]) (.seq (.reg [(.op (some 3) none (.mv (.t 0))), (.op (some 4) none (.mv (.t 0))),
  (.op (some 5) none (.bin .neq (.t 3) (.t 4))), (.op (some 2) none (.mv (.t 5)))]) .ret)), [(.t 2)]⟩
def k118 : KFunc := ⟨40, (.seq (.reg [(.op (some 6) none (.mv (.c (.bool false))))]) (.seq (.reg [(.op (some 7) none (.mv (.t 0))), (.op (some 8) none (.mv (.t 1))),
  (.op (some 9) none (.iad 1 (.t 7) (.t 8))), (.op (some 10) none (.ld (.t 9))), (.op (some 11) none (.nck (.t 10))), (.op (some 12) none (.fad 0 (.t 11))), (.op (some 13) none
  (.ld (.t 12))), (.op (some 14) none (.mv (.t 0))), (.op (some 15) none (.mv (.t 2))), (.op (some 16) none (.iad 1 (.t 14) (.t 15))), (.op (some 17) none (.ld (.t 16))),
  (.op (some 18) none (.nck (.t 17))), (.op (some 19) none (.fad 0 (.t 18))), (.op (some 20) none (.ld (.t 19))), (.op (some 22) none (.mv (.t 0))), (.op (some 23) none (.mv
  (.t 1))), (.op (some 24) none (.iad 1 (.t 22) (.t 23))), (.op (some 25) none (.ld (.t 24))), (.op (some 26) none (.nck (.t 25))), (.op (some 27) none (.fad 1 (.t 26))),
  (.op (some 28) none (.ld (.t 27))), (.op (some 29) none (.mv (.t 0))), (.op (some 30) none (.mv (.t 2))), (.op (some 31) none (.iad 1 (.t 29) (.t 30))), (.op (some 32) none (.ld
  (.t 31))), (.op (some 33) none (.nck (.t 32))), (.op (some 34) none (.fad 1 (.t 33))), (.op (some 35) none (.ld (.t 34))), (.op (some 21) none (.call 86 [(.t 13), (.t 20)])),
  (.chk 25 none (.ld (.t 24))), (.chk 28 none (.ld (.t 27))), (.chk 32 none (.ld (.t 31))), (.chk 35 none (.ld (.t 34))), (.op (some 36) none (.call 86 [(.t 28), (.t 35)])),
  (.op (some 37) none (.bsl 3 2 [(.int .i64 0), (.int .i64 0)] [(0, (1, (.t 21))), (1, (1, (.t 36)))])), (.op (some 38) none (.call 122 [(.t 37)])), (.op (some 39) none (.bin .lss
  (.t 38) (.c (.int .i64 0)))), (.op (some 6) none (.mv (.t 39)))]) .ret)), [(.t 6)]⟩
def k119 : KFunc := ⟨25, (.seq (.reg [(.op (some 2) none (.mv (.c .nilIface)))]) (.seq (.reg [(.op (some 5) none (.mv (.t 0))), (.op (some 6) none (.nck (.t 5))),
  (.op (some 7) none (.ld (.t 6))), (.op (some 8) none (.lenL (.t 7))), (.op (some 9) none (.bin .sub (.t 8) (.c (.int .i64 1)))), (.op (some 3) none (.mv (.t 9)))]) (.seq
  (.reg [(.op (some 10) none (.mv (.t 0))), (.op (some 11) none (.nck (.t 10))), (.op (some 12) none (.ld (.t 11))), (.op (some 13) none (.mv (.t 3))), (.op (some 14) none (.iad 1
  (.t 12) (.t 13))), (.op (some 15) none (.ld (.t 14))), (.op (some 4) none (.mv (.t 15)))]) (.seq (.reg [(.op (some 16) none (.mv (.t 0))), (.op (some 17) none (.mv (.t 0))),
  (.op (some 18) none (.nck (.t 17))), (.op (some 19) none (.ld (.t 18))), (.op (some 20) none (.mv (.t 3))), (.op (some 21) none (.slc 82 1 (.t 19) none (some (.t 20)))),
  (.op (some 22) none (.nck (.t 16))), (.op none none (.st (.t 22) (.t 21)))]) (.seq (.reg [(.op (some 23) none (.mv (.t 4))), (.op (some 24) none (.mki 82 (.t 23))),
  (.op (some 2) none (.mv (.t 24)))]) .ret))))), [(.t 2)]⟩
def k120 : KFunc := ⟨20, (.seq (.reg [(.op (some 7) none (.mv (.t 1))), (.op (some 8) none (.tas 82 (.pointer none) true (.t 7))), (.op (some 6) none (.mv (.t 8))),
  (.op (some 9) none (.xt (.t 6) 0)), (.op (some 10) none (.xt (.t 6) 1)), (.op (some 4) none (.mv (.t 9))), (.op (some 5) none (.mv (.t 10)))]) (.seq (.reg [(.op (some 11) none
  (.mv (.t 5)))]) (.cond (.t 11) (.reg [(.op (some 12) none (.mv (.t 0))), (.op (some 13) none (.mv (.t 0))), (.op (some 14) none (.nck (.t 13))), (.op (some 15) none (.ld
  (.t 14))), (.op (some 16) none (.mv (.t 4))), (.op (some 17) none (.bsl 82 1 [(.pointer none)] [(0, (1, (.t 16)))])), (.op (some 18) none (.app 82 1 8 (.t 15) (.t 17))),
  (.op (some 19) none (.nck (.t 12))), (.op none none (.st (.t 19) (.t 18)))]) .skip))), []⟩
def k121 : KFunc := ⟨20, (.reg [(.op (some 6) none (.mv (.t 0))), (.op (some 7) none (.mv (.t 1))), (.op (some 8) none (.mv (.t 0))), (.op (some 9) none (.mv (.t 2))),
  (.op (some 10) none (.mv (.t 0))), (.op (some 11) none (.mv (.t 2))), (.op (some 12) none (.iad 1 (.t 10) (.t 11))), (.op (some 13) none (.ld (.t 12))), (.op (some 14) none (.mv
  (.t 0))), (.op (some 15) none (.mv (.t 1))), (.op (some 16) none (.iad 1 (.t 14) (.t 15))), (.op (some 17) none (.ld (.t 16))), (.op (some 18) none (.iad 1 (.t 6) (.t 7))),
  (.op none none (.st (.t 18) (.t 13))), (.op (some 19) none (.iad 1 (.t 8) (.t 9))), (.op none none (.st (.t 19) (.t 17)))]), []⟩
def k122 : KFunc := ⟨18, (.seq (.reg [(.op (some 2) none (.mv (.c (.int .i64 0))))]) (.seq (.reg [(.op (some 3) none (.mv (.c (.int .i64 0))))]) (.seq (.seq
  (.reg [(.op (some 6) none (.mv (.t 0))), (.op (some 7) none (.lenL (.t 6))), (.op (some 8) none (.mv (.c (.int .i64 0))))]) (.block 0 (.loop (.seq (.reg [(.op (some 9) none
  (.bin .lss (.t 8) (.t 7)))]) (.seq (.cond (.t 9) .skip (.exit 0)) (.seq (.block 1 (.seq (.reg [(.op (some 10) none (.iad 1 (.t 6) (.t 8))), (.op (some 11) none (.ld (.t 10))),
  (.op (some 5) none (.mv (.t 11)))]) (.seq (.reg [(.op (some 12) none (.mv (.t 5))), (.op (some 13) none (.mv (.t 3))), (.op (some 14) none (.bin .neq (.t 12) (.t 13)))]) (.cond
  (.t 14) (.seq (.reg [(.op (some 15) none (.mv (.t 5))), (.op (some 2) none (.mv (.t 15)))]) .ret) .skip)))) (.reg [(.op (some 16) none (.bin .add (.t 8) (.c (.int .i64 1)))),
  (.op (some 8) none (.mv (.t 16)))]))))))) (.seq (.reg [(.op (some 17) none (.mv (.t 3))), (.op (some 2) none (.mv (.t 17)))]) .ret)))), [(.t 2)]⟩
theorem c5 : okFunc Go.Proofs.Tryz.prog 5 = true ∧ ∃ fn, Go.Proofs.Tryz.prog.funcs[5]? = some fn ∧ cFunc Go.Proofs.Tryz.prog fn = some k5 := ⟨by kernel_rfl, Go.Proofs.Tryz.f5, Go.Proofs.Tryz.func5, by kernel_rfl⟩
theorem c3 : okFunc Go.Proofs.Tryz.prog 3 = true ∧ ∃ fn, Go.Proofs.Tryz.prog.funcs[3]? = some fn ∧ cFunc Go.Proofs.Tryz.prog fn = some k3 := ⟨by kernel_rfl, Go.Proofs.Tryz.f3, Go.Proofs.Tryz.func3, by kernel_rfl⟩
theorem c6 : okFunc Go.Proofs.Tryz.prog 6 = true ∧ ∃ fn, Go.Proofs.Tryz.prog.funcs[6]? = some fn ∧ cFunc Go.Proofs.Tryz.prog fn = some k6 := ⟨by kernel_rfl, Go.Proofs.Tryz.f6, Go.Proofs.Tryz.func6, by kernel_rfl⟩
theorem c7 : okFunc Go.Proofs.Tryz.prog 7 = true ∧ ∃ fn, Go.Proofs.Tryz.prog.funcs[7]? = some fn ∧ cFunc Go.Proofs.Tryz.prog fn = some k7 := ⟨by kernel_rfl, Go.Proofs.Tryz.f7, Go.Proofs.Tryz.func7, by kernel_rfl⟩
theorem c8 : okFunc Go.Proofs.Tryz.prog 8 = true ∧ ∃ fn, Go.Proofs.Tryz.prog.funcs[8]? = some fn ∧ cFunc Go.Proofs.Tryz.prog fn = some k8 := ⟨by kernel_rfl, Go.Proofs.Tryz.f8, Go.Proofs.Tryz.func8, by kernel_rfl⟩
theorem c9 : okFunc Go.Proofs.Tryz.prog 9 = true ∧ ∃ fn, Go.Proofs.Tryz.prog.funcs[9]? = some fn ∧ cFunc Go.Proofs.Tryz.prog fn = some k9 := ⟨by kernel_rfl, Go.Proofs.Tryz.f9, Go.Proofs.Tryz.func9, by kernel_rfl⟩
theorem c10 : okFunc Go.Proofs.Tryz.prog 10 = true ∧ ∃ fn, Go.Proofs.Tryz.prog.funcs[10]? = some fn ∧ cFunc Go.Proofs.Tryz.prog fn = some k10 := ⟨by kernel_rfl, Go.Proofs.Tryz.f10, Go.Proofs.Tryz.func10, by kernel_rfl⟩
theorem c11 : okFunc Go.Proofs.Tryz.prog 11 = true ∧ ∃ fn, Go.Proofs.Tryz.prog.funcs[11]? = some fn ∧ cFunc Go.Proofs.Tryz.prog fn = some k11 := ⟨by kernel_rfl, Go.Proofs.Tryz.f11, Go.Proofs.Tryz.func11, by kernel_rfl⟩
theorem c12 : okFunc Go.Proofs.Tryz.prog 12 = true ∧ ∃ fn, Go.Proofs.Tryz.prog.funcs[12]? = some fn ∧ cFunc Go.Proofs.Tryz.prog fn = some k12 := ⟨by kernel_rfl, Go.Proofs.Tryz.f12, Go.Proofs.Tryz.func12, by kernel_rfl⟩
theorem c13 : okFunc Go.Proofs.Tryz.prog 13 = true ∧ ∃ fn, Go.Proofs.Tryz.prog.funcs[13]? = some fn ∧ cFunc Go.Proofs.Tryz.prog fn = some k13 := ⟨by kernel_rfl, Go.Proofs.Tryz.f13, Go.Proofs.Tryz.func13, by kernel_rfl⟩
theorem c14 : okFunc Go.Proofs.Tryz.prog 14 = true ∧ ∃ fn, Go.Proofs.Tryz.prog.funcs[14]? = some fn ∧ cFunc Go.Proofs.Tryz.prog fn = some k14 := ⟨by kernel_rfl, Go.Proofs.Tryz.f14, Go.Proofs.Tryz.func14, by kernel_rfl⟩
theorem c15 : okFunc Go.Proofs.Tryz.prog 15 = true ∧ ∃ fn, Go.Proofs.Tryz.prog.funcs[15]? = some fn ∧ cFunc Go.Proofs.Tryz.prog fn = some k15 := ⟨by kernel_rfl, Go.Proofs.Tryz.f15, Go.Proofs.Tryz.func15, by kernel_rfl⟩
theorem c16 : okFunc Go.Proofs.Tryz.prog 16 = true ∧ ∃ fn, Go.Proofs.Tryz.prog.funcs[16]? = some fn ∧ cFunc Go.Proofs.Tryz.prog fn = some k16 := ⟨by kernel_rfl, Go.Proofs.Tryz.f16, Go.Proofs.Tryz.func16, by kernel_rfl⟩
theorem c17 : okFunc Go.Proofs.Tryz.prog 17 = true ∧ ∃ fn, Go.Proofs.Tryz.prog.funcs[17]? = some fn ∧ cFunc Go.Proofs.Tryz.prog fn = some k17 := ⟨by kernel_rfl, Go.Proofs.Tryz.f17, Go.Proofs.Tryz.func17, by kernel_rfl⟩
theorem c18 : okFunc Go.Proofs.Tryz.prog 18 = true ∧ ∃ fn, Go.Proofs.Tryz.prog.funcs[18]? = some fn ∧ cFunc Go.Proofs.Tryz.prog fn = some k18 := ⟨by kernel_rfl, Go.Proofs.Tryz.f18, Go.Proofs.Tryz.func18, by kernel_rfl⟩
theorem c19 : okFunc Go.Proofs.Tryz.prog 19 = true ∧ ∃ fn, Go.Proofs.Tryz.prog.funcs[19]? = some fn ∧ cFunc Go.Proofs.Tryz.prog fn = some k19 := ⟨by kernel_rfl, Go.Proofs.Tryz.f19, Go.Proofs.Tryz.func19, by kernel_rfl⟩
theorem c20 : okFunc Go.Proofs.Tryz.prog 20 = true ∧ ∃ fn, Go.Proofs.Tryz.prog.funcs[20]? = some fn ∧ cFunc Go.Proofs.Tryz.prog fn = some k20 := ⟨by kernel_rfl, Go.Proofs.Tryz.f20, Go.Proofs.Tryz.func20, by kernel_rfl⟩
theorem c21 : okFunc Go.Proofs.Tryz.prog 21 = true ∧ ∃ fn, Go.Proofs.Tryz.prog.funcs[21]? = some fn ∧ cFunc Go.Proofs.Tryz.prog fn = some k21 := ⟨by kernel_rfl, Go.Proofs.Tryz.f21, Go.Proofs.Tryz.func21, by kernel_rfl⟩
theorem c22 : okFunc Go.Proofs.Tryz.prog 22 = true ∧ ∃ fn, Go.Proofs.Tryz.prog.funcs[22]? = some fn ∧ cFunc Go.Proofs.Tryz.prog fn = some k22 := ⟨by kernel_rfl, Go.Proofs.Tryz.f22, Go.Proofs.Tryz.func22, by kernel_rfl⟩
theorem c23 : okFunc Go.Proofs.Tryz.prog 23 = true ∧ ∃ fn, Go.Proofs.Tryz.prog.funcs[23]? = some fn ∧ cFunc Go.Proofs.Tryz.prog fn = some k23 := ⟨by kernel_rfl, Go.Proofs.Tryz.f23, Go.Proofs.Tryz.func23, by kernel_rfl⟩
theorem c24 : okFunc Go.Proofs.Tryz.prog 24 = true ∧ ∃ fn, Go.Proofs.Tryz.prog.funcs[24]? = some fn ∧ cFunc Go.Proofs.Tryz.prog fn = some k24 := ⟨by kernel_rfl, Go.Proofs.Tryz.f24, Go.Proofs.Tryz.func24, by kernel_rfl⟩
theorem c26 : okFunc Go.Proofs.Tryz.prog 26 = true ∧ ∃ fn, Go.Proofs.Tryz.prog.funcs[26]? = some fn ∧ cFunc Go.Proofs.Tryz.prog fn = some k26 := ⟨by kernel_rfl, Go.Proofs.Tryz.f26, Go.Proofs.Tryz.func26, by kernel_rfl⟩
theorem c27 : okFunc Go.Proofs.Tryz.prog 27 = true ∧ ∃ fn, Go.Proofs.Tryz.prog.funcs[27]? = some fn ∧ cFunc Go.Proofs.Tryz.prog fn = some k27 := ⟨by kernel_rfl, Go.Proofs.Tryz.f27, Go.Proofs.Tryz.func27, by kernel_rfl⟩
theorem c28 : okFunc Go.Proofs.Tryz.prog 28 = true ∧ ∃ fn, Go.Proofs.Tryz.prog.funcs[28]? = some fn ∧ cFunc Go.Proofs.Tryz.prog fn = some k28 := ⟨by kernel_rfl, Go.Proofs.Tryz.f28, Go.Proofs.Tryz.func28, by kernel_rfl⟩
theorem c29 : okFunc Go.Proofs.Tryz.prog 29 = true ∧ ∃ fn, Go.Proofs.Tryz.prog.funcs[29]? = some fn ∧ cFunc Go.Proofs.Tryz.prog fn = some k29 := ⟨by kernel_rfl, Go.Proofs.Tryz.f29, Go.Proofs.Tryz.func29, by kernel_rfl⟩
theorem c34 : okFunc Go.Proofs.Tryz.prog 34 = true ∧ ∃ fn, Go.Proofs.Tryz.prog.funcs[34]? = some fn ∧ cFunc Go.Proofs.Tryz.prog fn = some k34 := ⟨by kernel_rfl, Go.Proofs.Tryz.f34, Go.Proofs.Tryz.func34, by kernel_rfl⟩
theorem c35 : okFunc Go.Proofs.Tryz.prog 35 = true ∧ ∃ fn, Go.Proofs.Tryz.prog.funcs[35]? = some fn ∧ cFunc Go.Proofs.Tryz.prog fn = some k35 := ⟨by kernel_rfl, Go.Proofs.Tryz.f35, Go.Proofs.Tryz.func35, by kernel_rfl⟩
theorem c37 : okFunc Go.Proofs.Tryz.prog 37 = true ∧ ∃ fn, Go.Proofs.Tryz.prog.funcs[37]? = some fn ∧ cFunc Go.Proofs.Tryz.prog fn = some k37 := ⟨by kernel_rfl, Go.Proofs.Tryz.f37, Go.Proofs.Tryz.func37, by kernel_rfl⟩
theorem c38 : okFunc Go.Proofs.Tryz.prog 38 = true ∧ ∃ fn, Go.Proofs.Tryz.prog.funcs[38]? = some fn ∧ cFunc Go.Proofs.Tryz.prog fn = some k38 := ⟨by kernel_rfl, Go.Proofs.Tryz.f38, Go.Proofs.Tryz.func38, by kernel_rfl⟩
theorem c39 : okFunc Go.Proofs.Tryz.prog 39 = true ∧ ∃ fn, Go.Proofs.Tryz.prog.funcs[39]? = some fn ∧ cFunc Go.Proofs.Tryz.prog fn = some k39 := ⟨by kernel_rfl, Go.Proofs.Tryz.f39, Go.Proofs.Tryz.func39, by kernel_rfl⟩
theorem c40 : okFunc Go.Proofs.Tryz.prog 40 = true ∧ ∃ fn, Go.Proofs.Tryz.prog.funcs[40]? = some fn ∧ cFunc Go.Proofs.Tryz.prog fn = some k40 := ⟨by kernel_rfl, Go.Proofs.Tryz.f40, Go.Proofs.Tryz.func40, by kernel_rfl⟩
theorem c41 : okFunc Go.Proofs.Tryz.prog 41 = true ∧ ∃ fn, Go.Proofs.Tryz.prog.funcs[41]? = some fn ∧ cFunc Go.Proofs.Tryz.prog fn = some k41 := ⟨by kernel_rfl, Go.Proofs.Tryz.f41, Go.Proofs.Tryz.func41, by kernel_rfl⟩
theorem c42 : okFunc Go.Proofs.Tryz.prog 42 = true ∧ ∃ fn, Go.Proofs.Tryz.prog.funcs[42]? = some fn ∧ cFunc Go.Proofs.Tryz.prog fn = some k42 := ⟨by kernel_rfl, Go.Proofs.Tryz.f42, Go.Proofs.Tryz.func42, by kernel_rfl⟩
theorem c49 : okFunc Go.Proofs.Tryz.prog 49 = true ∧ ∃ fn, Go.Proofs.Tryz.prog.funcs[49]? = some fn ∧ cFunc Go.Proofs.Tryz.prog fn = some k49 := ⟨by kernel_rfl, Go.Proofs.Tryz.f49, Go.Proofs.Tryz.func49, by kernel_rfl⟩
theorem c50 : okFunc Go.Proofs.Tryz.prog 50 = true ∧ ∃ fn, Go.Proofs.Tryz.prog.funcs[50]? = some fn ∧ cFunc Go.Proofs.Tryz.prog fn = some k50 := ⟨by kernel_rfl, Go.Proofs.Tryz.f50, Go.Proofs.Tryz.func50, by kernel_rfl⟩
theorem c32 : okFunc Go.Proofs.Tryz.prog 32 = true ∧ ∃ fn, Go.Proofs.Tryz.prog.funcs[32]? = some fn ∧ cFunc Go.Proofs.Tryz.prog fn = some k32 := ⟨by kernel_rfl, Go.Proofs.Tryz.f32, Go.Proofs.Tryz.func32, by kernel_rfl⟩
theorem c33 : okFunc Go.Proofs.Tryz.prog 33 = true ∧ ∃ fn, Go.Proofs.Tryz.prog.funcs[33]? = some fn ∧ cFunc Go.Proofs.Tryz.prog fn = some k33 := ⟨by kernel_rfl, Go.Proofs.Tryz.f33, Go.Proofs.Tryz.func33, by kernel_rfl⟩
theorem c36 : okFunc Go.Proofs.Tryz.prog 36 = true ∧ ∃ fn, Go.Proofs.Tryz.prog.funcs[36]? = some fn ∧ cFunc Go.Proofs.Tryz.prog fn = some k36 := ⟨by kernel_rfl, Go.Proofs.Tryz.f36, Go.Proofs.Tryz.func36, by kernel_rfl⟩
theorem c51 : okFunc Go.Proofs.Tryz.prog 51 = true ∧ ∃ fn, Go.Proofs.Tryz.prog.funcs[51]? = some fn ∧ cFunc Go.Proofs.Tryz.prog fn = some k51 := ⟨by kernel_rfl, Go.Proofs.Tryz.f51, Go.Proofs.Tryz.func51, by kernel_rfl⟩
theorem c57 : okFunc Go.Proofs.Tryz.prog 57 = true ∧ ∃ fn, Go.Proofs.Tryz.prog.funcs[57]? = some fn ∧ cFunc Go.Proofs.Tryz.prog fn = some k57 := ⟨by kernel_rfl, Go.Proofs.Tryz.f57, Go.Proofs.Tryz.func57, by kernel_rfl⟩
theorem c58 : okFunc Go.Proofs.Tryz.prog 58 = true ∧ ∃ fn, Go.Proofs.Tryz.prog.funcs[58]? = some fn ∧ cFunc Go.Proofs.Tryz.prog fn = some k58 := ⟨by kernel_rfl, Go.Proofs.Tryz.f58, Go.Proofs.Tryz.func58, by kernel_rfl⟩
theorem c59 : okFunc Go.Proofs.Tryz.prog 59 = true ∧ ∃ fn, Go.Proofs.Tryz.prog.funcs[59]? = some fn ∧ cFunc Go.Proofs.Tryz.prog fn = some k59 := ⟨by kernel_rfl, Go.Proofs.Tryz.f59, Go.Proofs.Tryz.func59, by kernel_rfl⟩
theorem c60 : okFunc Go.Proofs.Tryz.prog 60 = true ∧ ∃ fn, Go.Proofs.Tryz.prog.funcs[60]? = some fn ∧ cFunc Go.Proofs.Tryz.prog fn = some k60 := ⟨by kernel_rfl, Go.Proofs.Tryz.f60, Go.Proofs.Tryz.func60, by kernel_rfl⟩
theorem c61 : okFunc Go.Proofs.Tryz.prog 61 = true ∧ ∃ fn, Go.Proofs.Tryz.prog.funcs[61]? = some fn ∧ cFunc Go.Proofs.Tryz.prog fn = some k61 := ⟨by kernel_rfl, Go.Proofs.Tryz.f61, Go.Proofs.Tryz.func61, by kernel_rfl⟩
theorem c62 : okFunc Go.Proofs.Tryz.prog 62 = true ∧ ∃ fn, Go.Proofs.Tryz.prog.funcs[62]? = some fn ∧ cFunc Go.Proofs.Tryz.prog fn = some k62 := ⟨by kernel_rfl, Go.Proofs.Tryz.f62, Go.Proofs.Tryz.func62, by kernel_rfl⟩
theorem c63 : okFunc Go.Proofs.Tryz.prog 63 = true ∧ ∃ fn, Go.Proofs.Tryz.prog.funcs[63]? = some fn ∧ cFunc Go.Proofs.Tryz.prog fn = some k63 := ⟨by kernel_rfl, Go.Proofs.Tryz.f63, Go.Proofs.Tryz.func63, by kernel_rfl⟩
theorem c64 : okFunc Go.Proofs.Tryz.prog 64 = true ∧ ∃ fn, Go.Proofs.Tryz.prog.funcs[64]? = some fn ∧ cFunc Go.Proofs.Tryz.prog fn = some k64 := ⟨by kernel_rfl, Go.Proofs.Tryz.f64, Go.Proofs.Tryz.func64, by kernel_rfl⟩
theorem c65 : okFunc Go.Proofs.Tryz.prog 65 = true ∧ ∃ fn, Go.Proofs.Tryz.prog.funcs[65]? = some fn ∧ cFunc Go.Proofs.Tryz.prog fn = some k65 := ⟨by kernel_rfl, Go.Proofs.Tryz.f65, Go.Proofs.Tryz.func65, by kernel_rfl⟩
theorem c66 : okFunc Go.Proofs.Tryz.prog 66 = true ∧ ∃ fn, Go.Proofs.Tryz.prog.funcs[66]? = some fn ∧ cFunc Go.Proofs.Tryz.prog fn = some k66 := ⟨by kernel_rfl, Go.Proofs.Tryz.f66, Go.Proofs.Tryz.func66, by kernel_rfl⟩
theorem c67 : okFunc Go.Proofs.Tryz.prog 67 = true ∧ ∃ fn, Go.Proofs.Tryz.prog.funcs[67]? = some fn ∧ cFunc Go.Proofs.Tryz.prog fn = some k67 := ⟨by kernel_rfl, Go.Proofs.Tryz.f67, Go.Proofs.Tryz.func67, by kernel_rfl⟩
theorem c73 : okFunc Go.Proofs.Tryz.prog 73 = true ∧ ∃ fn, Go.Proofs.Tryz.prog.funcs[73]? = some fn ∧ cFunc Go.Proofs.Tryz.prog fn = some k73 := ⟨by kernel_rfl, Go.Proofs.Tryz.f73, Go.Proofs.Tryz.func73, by kernel_rfl⟩
theorem c74 : okFunc Go.Proofs.Tryz.prog 74 = true ∧ ∃ fn, Go.Proofs.Tryz.prog.funcs[74]? = some fn ∧ cFunc Go.Proofs.Tryz.prog fn = some k74 := ⟨by kernel_rfl, Go.Proofs.Tryz.f74, Go.Proofs.Tryz.func74, by kernel_rfl⟩
theorem c75 : okFunc Go.Proofs.Tryz.prog 75 = true ∧ ∃ fn, Go.Proofs.Tryz.prog.funcs[75]? = some fn ∧ cFunc Go.Proofs.Tryz.prog fn = some k75 := ⟨by kernel_rfl, Go.Proofs.Tryz.f75, Go.Proofs.Tryz.func75, by kernel_rfl⟩
theorem c76 : okFunc Go.Proofs.Tryz.prog 76 = true ∧ ∃ fn, Go.Proofs.Tryz.prog.funcs[76]? = some fn ∧ cFunc Go.Proofs.Tryz.prog fn = some k76 := ⟨by kernel_rfl, Go.Proofs.Tryz.f76, Go.Proofs.Tryz.func76, by kernel_rfl⟩
theorem c77 : okFunc Go.Proofs.Tryz.prog 77 = true ∧ ∃ fn, Go.Proofs.Tryz.prog.funcs[77]? = some fn ∧ cFunc Go.Proofs.Tryz.prog fn = some k77 := ⟨by kernel_rfl, Go.Proofs.Tryz.f77, Go.Proofs.Tryz.func77, by kernel_rfl⟩
theorem c87 : okFunc Go.Proofs.Tryz.prog 87 = true ∧ ∃ fn, Go.Proofs.Tryz.prog.funcs[87]? = some fn ∧ cFunc Go.Proofs.Tryz.prog fn = some k87 := ⟨by kernel_rfl, Go.Proofs.Tryz.f87, Go.Proofs.Tryz.func87, by kernel_rfl⟩
theorem c88 : okFunc Go.Proofs.Tryz.prog 88 = true ∧ ∃ fn, Go.Proofs.Tryz.prog.funcs[88]? = some fn ∧ cFunc Go.Proofs.Tryz.prog fn = some k88 := ⟨by kernel_rfl, Go.Proofs.Tryz.f88, Go.Proofs.Tryz.func88, by kernel_rfl⟩
theorem c30 : okFunc Go.Proofs.Tryz.prog 30 = true ∧ ∃ fn, Go.Proofs.Tryz.prog.funcs[30]? = some fn ∧ cFunc Go.Proofs.Tryz.prog fn = some k30 := ⟨by kernel_rfl, Go.Proofs.Tryz.f30, Go.Proofs.Tryz.func30, by kernel_rfl⟩
theorem c31 : okFunc Go.Proofs.Tryz.prog 31 = true ∧ ∃ fn, Go.Proofs.Tryz.prog.funcs[31]? = some fn ∧ cFunc Go.Proofs.Tryz.prog fn = some k31 := ⟨by kernel_rfl, Go.Proofs.Tryz.f31, Go.Proofs.Tryz.func31, by kernel_rfl⟩
theorem c52 : okFunc Go.Proofs.Tryz.prog 52 = true ∧ ∃ fn, Go.Proofs.Tryz.prog.funcs[52]? = some fn ∧ cFunc Go.Proofs.Tryz.prog fn = some k52 := ⟨by kernel_rfl, Go.Proofs.Tryz.f52, Go.Proofs.Tryz.func52, by kernel_rfl⟩
theorem c53 : okFunc Go.Proofs.Tryz.prog 53 = true ∧ ∃ fn, Go.Proofs.Tryz.prog.funcs[53]? = some fn ∧ cFunc Go.Proofs.Tryz.prog fn = some k53 := ⟨by kernel_rfl, Go.Proofs.Tryz.f53, Go.Proofs.Tryz.func53, by kernel_rfl⟩
theorem c54 : okFunc Go.Proofs.Tryz.prog 54 = true ∧ ∃ fn, Go.Proofs.Tryz.prog.funcs[54]? = some fn ∧ cFunc Go.Proofs.Tryz.prog fn = some k54 := ⟨by kernel_rfl, Go.Proofs.Tryz.f54, Go.Proofs.Tryz.func54, by kernel_rfl⟩
theorem c55 : okFunc Go.Proofs.Tryz.prog 55 = true ∧ ∃ fn, Go.Proofs.Tryz.prog.funcs[55]? = some fn ∧ cFunc Go.Proofs.Tryz.prog fn = some k55 := ⟨by kernel_rfl, Go.Proofs.Tryz.f55, Go.Proofs.Tryz.func55, by kernel_rfl⟩
theorem c78 : okFunc Go.Proofs.Tryz.prog 78 = true ∧ ∃ fn, Go.Proofs.Tryz.prog.funcs[78]? = some fn ∧ cFunc Go.Proofs.Tryz.prog fn = some k78 := ⟨by kernel_rfl, Go.Proofs.Tryz.f78, Go.Proofs.Tryz.func78, by kernel_rfl⟩
theorem c79 : okFunc Go.Proofs.Tryz.prog 79 = true ∧ ∃ fn, Go.Proofs.Tryz.prog.funcs[79]? = some fn ∧ cFunc Go.Proofs.Tryz.prog fn = some k79 := ⟨by kernel_rfl, Go.Proofs.Tryz.f79, Go.Proofs.Tryz.func79, by kernel_rfl⟩
theorem c80 : okFunc Go.Proofs.Tryz.prog 80 = true ∧ ∃ fn, Go.Proofs.Tryz.prog.funcs[80]? = some fn ∧ cFunc Go.Proofs.Tryz.prog fn = some k80 := ⟨by kernel_rfl, Go.Proofs.Tryz.f80, Go.Proofs.Tryz.func80, by kernel_rfl⟩
theorem c81 : okFunc Go.Proofs.Tryz.prog 81 = true ∧ ∃ fn, Go.Proofs.Tryz.prog.funcs[81]? = some fn ∧ cFunc Go.Proofs.Tryz.prog fn = some k81 := ⟨by kernel_rfl, Go.Proofs.Tryz.f81, Go.Proofs.Tryz.func81, by kernel_rfl⟩
theorem c82 : okFunc Go.Proofs.Tryz.prog 82 = true ∧ ∃ fn, Go.Proofs.Tryz.prog.funcs[82]? = some fn ∧ cFunc Go.Proofs.Tryz.prog fn = some k82 := ⟨by kernel_rfl, Go.Proofs.Tryz.f82, Go.Proofs.Tryz.func82, by kernel_rfl⟩
theorem c86 : okFunc Go.Proofs.Tryz.prog 86 = true ∧ ∃ fn, Go.Proofs.Tryz.prog.funcs[86]? = some fn ∧ cFunc Go.Proofs.Tryz.prog fn = some k86 := ⟨by kernel_rfl, Go.Proofs.Tryz.f86, Go.Proofs.Tryz.func86, by kernel_rfl⟩
theorem c91 : okFunc Go.Proofs.Tryz.prog 91 = true ∧ ∃ fn, Go.Proofs.Tryz.prog.funcs[91]? = some fn ∧ cFunc Go.Proofs.Tryz.prog fn = some k91 := ⟨by kernel_rfl, Go.Proofs.Tryz.f91, Go.Proofs.Tryz.func91, by kernel_rfl⟩
theorem c92 : okFunc Go.Proofs.Tryz.prog 92 = true ∧ ∃ fn, Go.Proofs.Tryz.prog.funcs[92]? = some fn ∧ cFunc Go.Proofs.Tryz.prog fn = some k92 := ⟨by kernel_rfl, Go.Proofs.Tryz.f92, Go.Proofs.Tryz.func92, by kernel_rfl⟩
theorem c93 : okFunc Go.Proofs.Tryz.prog 93 = true ∧ ∃ fn, Go.Proofs.Tryz.prog.funcs[93]? = some fn ∧ cFunc Go.Proofs.Tryz.prog fn = some k93 := ⟨by kernel_rfl, Go.Proofs.Tryz.f93, Go.Proofs.Tryz.func93, by kernel_rfl⟩
theorem c96 : okFunc Go.Proofs.Tryz.prog 96 = true ∧ ∃ fn, Go.Proofs.Tryz.prog.funcs[96]? = some fn ∧ cFunc Go.Proofs.Tryz.prog fn = some k96 := ⟨by kernel_rfl, Go.Proofs.Tryz.f96, Go.Proofs.Tryz.func96, by kernel_rfl⟩
theorem c118 : okFunc Go.Proofs.Tryz.prog 118 = true ∧ ∃ fn, Go.Proofs.Tryz.prog.funcs[118]? = some fn ∧ cFunc Go.Proofs.Tryz.prog fn = some k118 := ⟨by kernel_rfl, Go.Proofs.Tryz.f118, Go.Proofs.Tryz.func118, by kernel_rfl⟩
theorem c119 : okFunc Go.Proofs.Tryz.prog 119 = true ∧ ∃ fn, Go.Proofs.Tryz.prog.funcs[119]? = some fn ∧ cFunc Go.Proofs.Tryz.prog fn = some k119 := ⟨by kernel_rfl, Go.Proofs.Tryz.f119, Go.Proofs.Tryz.func119, by kernel_rfl⟩
theorem c120 : okFunc Go.Proofs.Tryz.prog 120 = true ∧ ∃ fn, Go.Proofs.Tryz.prog.funcs[120]? = some fn ∧ cFunc Go.Proofs.Tryz.prog fn = some k120 := ⟨by kernel_rfl, Go.Proofs.Tryz.f120, Go.Proofs.Tryz.func120, by kernel_rfl⟩
theorem c121 : okFunc Go.Proofs.Tryz.prog 121 = true ∧ ∃ fn, Go.Proofs.Tryz.prog.funcs[121]? = some fn ∧ cFunc Go.Proofs.Tryz.prog fn = some k121 := ⟨by kernel_rfl, Go.Proofs.Tryz.f121, Go.Proofs.Tryz.func121, by kernel_rfl⟩
theorem c122 : okFunc Go.Proofs.Tryz.prog 122 = true ∧ ∃ fn, Go.Proofs.Tryz.prog.funcs[122]? = some fn ∧ cFunc Go.Proofs.Tryz.prog fn = some k122 := ⟨by kernel_rfl, Go.Proofs.Tryz.f122, Go.Proofs.Tryz.func122, by kernel_rfl⟩
def F : FuncId → Option KFunc
  | 5 => some k5
  | 3 => some k3
  | 6 => some k6
  | 7 => some k7
  | 8 => some k8
  | 9 => some k9
  | 10 => some k10
  | 11 => some k11
  | 12 => some k12
  | 13 => some k13
  | 14 => some k14
  | 15 => some k15
  | 16 => some k16
  | 17 => some k17
  | 18 => some k18
  | 19 => some k19
  | 20 => some k20
  | 21 => some k21
  | 22 => some k22
  | 23 => some k23
  | 24 => some k24
  | 26 => some k26
  | 27 => some k27
  | 28 => some k28
  | 29 => some k29
  | 34 => some k34
  | 35 => some k35
  | 37 => some k37
  | 38 => some k38
  | 39 => some k39
  | 40 => some k40
  | 41 => some k41
  | 42 => some k42
  | 49 => some k49
  | 50 => some k50
  | 32 => some k32
  | 33 => some k33
  | 36 => some k36
  | 51 => some k51
  | 57 => some k57
  | 58 => some k58
  | 59 => some k59
  | 60 => some k60
  | 61 => some k61
  | 62 => some k62
  | 63 => some k63
  | 64 => some k64
  | 65 => some k65
  | 66 => some k66
  | 67 => some k67
  | 73 => some k73
  | 74 => some k74
  | 75 => some k75
  | 76 => some k76
  | 77 => some k77
  | 87 => some k87
  | 88 => some k88
  | 30 => some k30
  | 31 => some k31
  | 52 => some k52
  | 53 => some k53
  | 54 => some k54
  | 55 => some k55
  | 78 => some k78
  | 79 => some k79
  | 80 => some k80
  | 81 => some k81
  | 82 => some k82
  | 86 => some k86
  | 91 => some k91
  | 92 => some k92
  | 93 => some k93
  | 96 => some k96
  | 118 => some k118
  | 119 => some k119
  | 120 => some k120
  | 121 => some k121
  | 122 => some k122
  | _ => none
def M : TypeId → String → Option (FuncId × Recv)
  | 111, "Len" => some (80, .ld)
  | 111, "Less" => some (118, .ld)
  | 111, "Swap" => some (121, .ld)
  | 111, "Pop" => some (119, .as)
  | 111, "Push" => some (120, .as)
  | _, _ => none
theorem F_ok : ∀ f k, F f = some k → okFunc Go.Proofs.Tryz.prog f = true ∧ ∃ fn, Go.Proofs.Tryz.prog.funcs[f]? = some fn ∧ cFunc Go.Proofs.Tryz.prog fn = some k := by
  intro f k h
  unfold F at h
  split at h
  · cases h; exact c5
  · cases h; exact c3
  · cases h; exact c6
  · cases h; exact c7
  · cases h; exact c8
  · cases h; exact c9
  · cases h; exact c10
  · cases h; exact c11
  · cases h; exact c12
  · cases h; exact c13
  · cases h; exact c14
  · cases h; exact c15
  · cases h; exact c16
  · cases h; exact c17
  · cases h; exact c18
  · cases h; exact c19
  · cases h; exact c20
  · cases h; exact c21
  · cases h; exact c22
  · cases h; exact c23
  · cases h; exact c24
  · cases h; exact c26
  · cases h; exact c27
  · cases h; exact c28
  · cases h; exact c29
  · cases h; exact c34
  · cases h; exact c35
  · cases h; exact c37
  · cases h; exact c38
  · cases h; exact c39
  · cases h; exact c40
  · cases h; exact c41
  · cases h; exact c42
  · cases h; exact c49
  · cases h; exact c50
  · cases h; exact c32
  · cases h; exact c33
  · cases h; exact c36
  · cases h; exact c51
  · cases h; exact c57
  · cases h; exact c58
  · cases h; exact c59
  · cases h; exact c60
  · cases h; exact c61
  · cases h; exact c62
  · cases h; exact c63
  · cases h; exact c64
  · cases h; exact c65
  · cases h; exact c66
  · cases h; exact c67
  · cases h; exact c73
  · cases h; exact c74
  · cases h; exact c75
  · cases h; exact c76
  · cases h; exact c77
  · cases h; exact c87
  · cases h; exact c88
  · cases h; exact c30
  · cases h; exact c31
  · cases h; exact c52
  · cases h; exact c53
  · cases h; exact c54
  · cases h; exact c55
  · cases h; exact c78
  · cases h; exact c79
  · cases h; exact c80
  · cases h; exact c81
  · cases h; exact c82
  · cases h; exact c86
  · cases h; exact c91
  · cases h; exact c92
  · cases h; exact c93
  · cases h; exact c96
  · cases h; exact c118
  · cases h; exact c119
  · cases h; exact c120
  · cases h; exact c121
  · cases h; exact c122
  · cases h
theorem M_ok : ∀ t n f r, M t n = some (f, r) → methOk Go.Proofs.Tryz.prog t n f r = true := by
  intro t n f r h
  unfold M at h
  split at h
  · cases h; kernel_rfl
  · cases h; kernel_rfl
  · cases h; kernel_rfl
  · cases h; kernel_rfl
  · cases h; kernel_rfl
  · cases h
end Go.Proofs.YtlboioplemlneaaGreat.K
