/- The functions in K's language, each held against the given translation by the kernel. Printed by a program of this work (seat.py). -/
import Derived.Test.YtlboioplemlneaaKF3
import Derived.Test.YtlboioplemlneaaProg
set_option maxRecDepth 100000
set_option linter.unusedVariables false
namespace Go.Proofs.Ytlboioplemlneaa.K
open Go Go.Proofs
def k12 : KFunc := ⟨51, (.seq (.reg [(.op (some 4) none (.mv (.c (.bool false))))]) (.seq (.seq (.reg [(.op (some 10) none (.call 46 [])), (.op (some 11) none (.un .not
  (.t 10)))]) (.cond (.t 11) (.seq (.reg [(.op (some 4) none (.mv (.c (.bool false))))]) .ret) .skip)) (.seq (.seq (.reg [(.op (some 12) none (.mv (.t 0))), (.op (some 13) none
  (.lenS (.t 12))), (.op (some 14) none (.bin .gtr (.t 13) (.c (.int .i64 200)))), (.op (some 15) none (.mv (.t 14))), (.op (some 16) (some (15, false)) (.mv (.t 0))),
  (.op (some 17) (some (15, false)) (.lenS (.t 16))), (.op (some 18) (some (15, false)) (.bin .eql (.t 17) (.c (.int .i64 0)))), (.op (some 19) none (.pick (.t 15) (.c
  (.bool true)) (.t 18)))]) (.cond (.t 19) (.seq (.reg [(.op (some 4) none (.mv (.c (.bool true))))]) .ret) .skip)) (.seq (.reg [(.op (some 20) none (.mv (.t 0))),
  (.op (some 21) none (.call 47 [(.t 20)])), (.op (some 5) none (.mv (.t 21)))]) (.seq (.reg [(.op (some 23) none (.mv (.t 5))), (.op (some 24) none (.call 49 [(.t 23)])),
  (.op (some 25) none (.mv (.t 0))), (.op (some 26) none (.lenS (.t 25))), (.op (some 27) none (.bin .sub (.t 26) (.c (.int .i64 1)))), (.op (some 28) none (.call 48 [(.t 24),
  (.t 27)])), (.op (some 22) none (.mv (.t 28))), (.op (some 29) none (.xt (.t 22) 0)), (.op (some 30) none (.xt (.t 22) 1)), (.op (some 6) none (.mv (.t 29))), (.op (some 7) none
  (.mv (.t 30)))]) (.seq (.reg [(.op (some 32) none (.mv (.t 5))), (.op (some 33) none (.mv (.t 1))), (.op (some 34) none (.cvt .i64 (.t 33))), (.op (some 35) none (.mv (.t 5))),
  (.op (some 36) none (.lenS (.t 35))), (.op (some 37) none (.bin .rem (.t 34) (.t 36))), (.op (some 38) none (.slS (.t 32) none (some (.t 37)))), (.op (some 39) none
  (.call 49 [(.t 38)])), (.op (some 40) none (.mv (.t 0))), (.op (some 41) none (.lenS (.t 40))), (.op (some 42) none (.call 48 [(.t 39), (.t 41)])), (.op (some 31) none (.mv
  (.t 42))), (.op (some 43) none (.xt (.t 31) 0)), (.op (some 44) none (.xt (.t 31) 1)), (.op (some 8) none (.mv (.t 43))), (.op (some 9) none (.mv (.t 44)))]) (.seq
  (.reg [(.op (some 45) none (.mv (.t 7))), (.op (some 46) none (.un .not (.t 45))), (.op (some 47) none (.mv (.t 46))), (.op (some 48) (some (47, true)) (.mv (.t 9))),
  (.op (some 49) (some (47, true)) (.un .not (.t 48))), (.op (some 50) none (.pick (.t 47) (.t 49) (.c (.bool false)))), (.op (some 4) none (.mv (.t 50)))]) .ret))))))), [(.t 4)]⟩
def k47 : KFunc := ⟨32, (.seq (.reg [(.op (some 2) none (.mv (.c (.string (bs [])))))]) (.seq (.seq (.reg [(.op (some 6) none (.mv (.t 0))), (.op (some 7) none
  (.call 95 [(.t 6)]))]) (.cond (.t 7) (.seq (.reg [(.op (some 8) none (.mv (.t 0))), (.op (some 9) none (.lenS (.t 8))), (.op (some 11) none (.mv (.t 0))), (.op (some 12) none
  (.slS (.t 11) none (some (.c (.int .i64 1))))), (.op (some 10) none (.call 96 [(.c (.int .i64 1)), (.t 9)])), (.op (some 13) none (.call 97 [(.t 10), (.t 12)])),
  (.op (some 14) none (.call 55 [(.t 13)])), (.op (some 2) none (.mv (.t 14)))]) .ret) .skip)) (.seq (.reg [(.op (some 15) none (.mv (.t 0))), (.op (some 16) none
  (.call 94 [(.t 15)])), (.op (some 3) none (.mv (.t 16)))]) (.seq (.seq (.reg [(.op (some 18) none (.mv (.t 0))), (.op (some 19) none (.call 98 [(.t 18)])), (.op (some 17) none
  (.mv (.t 19))), (.op (some 20) none (.xt (.t 17) 0)), (.op (some 21) none (.xt (.t 17) 1)), (.op (some 4) none (.mv (.t 20))), (.op (some 5) none (.mv (.t 21)))]) (.seq
  (.reg [(.op (some 22) none (.mv (.t 5))), (.op (some 23) none (.mv (.t 22))), (.op (some 24) (some (23, true)) (.mv (.t 4))), (.op (some 25) (some (23, true)) (.lenS (.t 24))),
  (.op (some 26) (some (23, true)) (.mv (.t 3))), (.op (some 27) (some (23, true)) (.lenS (.t 26))), (.op (some 28) (some (23, true)) (.bin .lss (.t 25) (.t 27))),
  (.op (some 29) none (.pick (.t 23) (.t 28) (.c (.bool false))))]) (.cond (.t 29) (.seq (.reg [(.op (some 30) none (.mv (.t 4))), (.op (some 2) none (.mv
  (.t 30)))]) .ret) .skip))) (.seq (.reg [(.op (some 31) none (.mv (.t 3))), (.op (some 2) none (.mv (.t 31)))]) .ret))))), [(.t 2)]⟩
def k48 : KFunc := ⟨44, (.seq (.reg [(.op (some 4) none (.mv (.c (.string (bs []))))), (.op (some 5) none (.mv (.c (.bool false))))]) (.seq (.reg [(.op (some 10) none (.mv
  (.t 0))), (.op (some 11) none (.call 99 [(.t 10), (.c (.int .i64 1))])), (.op (some 6) none (.mv (.t 11)))]) (.seq (.reg [(.op (some 12) none (.mv (.t 0))), (.op (some 13) none
  (.mv (.t 1))), (.op (some 14) none (.mn (.t 13) [(.c (.int .i64 1048576))])), (.op (some 15) none (.call 100 [(.t 12), (.t 14)])), (.op (some 7) none (.mv (.t 15)))]) (.seq
  (.seq (.reg [(.op (some 16) none (.mv (.t 0))), (.op (some 17) none (.call 101 [(.t 16)]))]) (.cond (.t 17) (.seq (.reg [(.op (some 4) none (.mv (.c (.string (bs []))))),
  (.op (some 5) none (.mv (.c (.bool false))))]) .ret) .skip)) (.seq (.seq (.reg [(.op (some 18) none (.mv (.t 6)))]) (.block 0 (.seq (.reg [(.op (some 20) none (.bin .eql (.t 18)
  (.c (.int .u64 0)))), (.op (some 19) none (.mv (.t 20)))]) (.cond (.t 19) (.seq (.reg [(.op (some 21) none (.mv (.t 0))), (.op (some 22) none (.mv (.t 7))), (.op (some 23) none
  (.call 102 [(.t 21), (.t 22)])), (.op (some 8) none (.mv (.t 23)))]) (.seq (.reg [(.op (some 24) none (.mv (.t 8))), (.op (some 25) none (.mv (.t 0))), (.op (some 26) none
  (.call 101 [(.t 25)])), (.op (some 27) none (.un .not (.t 26))), (.op (some 4) none (.mv (.t 24))), (.op (some 5) none (.mv (.t 27)))]) .ret)) (.seq (.reg [(.op (some 29) none
  (.bin .eql (.t 18) (.c (.int .u64 1)))), (.op (some 28) none (.mv (.t 29)))]) (.cond (.t 28) (.seq (.reg [(.op (some 30) none (.mv (.t 0))), (.op (some 31) none
  (.call 102 [(.t 30), (.c (.int .i64 1))])), (.op (some 9) none (.mv (.t 31)))]) (.seq (.seq (.reg [(.op (some 32) none (.mv (.t 0))), (.op (some 33) none
  (.call 101 [(.t 32)]))]) (.cond (.t 33) (.seq (.reg [(.op (some 4) none (.mv (.c (.string (bs []))))), (.op (some 5) none (.mv (.c (.bool false))))]) .ret) .skip)) (.seq
  (.reg [(.op (some 34) none (.mv (.t 9))), (.op (some 35) none (.mv (.t 7))), (.op (some 36) none (.call 103 [(.t 34), (.t 35)])), (.op (some 4) none (.mv (.t 36))),
  (.op (some 5) none (.mv (.c (.bool true))))]) .ret))) (.seq (.reg [(.op (some 38) none (.bin .eql (.t 18) (.c (.int .u64 2)))), (.op (some 37) none (.mv (.t 38)))]) (.cond
  (.t 37) (.seq (.reg [(.op (some 39) none (.mv (.t 0))), (.op (some 40) none (.mv (.t 7))), (.op (some 41) none (.call 104 [(.t 39), (.t 40)])), (.op (some 42) none (.xt
  (.t 41) 0)), (.op (some 43) none (.xt (.t 41) 1)), (.op (some 4) none (.mv (.t 42))), (.op (some 5) none (.mv (.t 43)))]) .ret) .skip)))))))) (.seq (.reg [(.op (some 4) none
  (.mv (.c (.string (bs []))))), (.op (some 5) none (.mv (.c (.bool false))))]) .ret)))))), [(.t 4), (.t 5)]⟩
def k49 : KFunc := ⟨6, (.seq (.reg [(.op (some 2) none (.mv (.c (.pointer none))))]) (.seq (.reg [(.op (some 3) none (.mv (.t 0))), (.op (some 4) none (.build [(.string (bs [])),
  (.bool false)] [(0, (1, (.t 3)))])), (.op (some 5) none (.box 134 (.t 4))), (.op (some 2) none (.mv (.t 5)))]) .ret)), [(.t 2)]⟩
def k50 : KFunc := ⟨22, (.seq (.reg [(.op (some 2) none (.mv (.c (.string (bs [])))))]) (.seq (.reg [(.op (some 3) none (.mv (.c (.string (bs [])))))]) (.seq (.block 0 (.loop
  (.seq (.seq (.reg [(.op (some 4) none (.mv (.t 0))), (.op (some 5) none (.bin .geq (.t 4) (.c (.int .u64 128))))]) (.cond (.t 5) .skip (.exit 0))) (.block 1 (.seq
  (.reg [(.op (some 6) none (.mv (.t 3))), (.op (some 7) none (.mv (.t 0))), (.op (some 8) none (.bin .rem (.t 7) (.c (.int .u64 128)))), (.op (some 9) none (.bin .add (.t 8) (.c
  (.int .u64 128)))), (.op (some 10) none (.cvt .u8 (.t 9))), (.op (some 11) none (.bsl 5 1 [(.int .u8 0)] [(0, (1, (.t 10)))])), (.op (some 12) none (.b2s 5 (.t 11))),
  (.op (some 13) none (.bin .add (.t 6) (.t 12))), (.op (some 3) none (.mv (.t 13)))]) (.reg [(.op (some 14) none (.mv (.t 0))), (.op (some 15) none (.bin .quo (.t 14) (.c
  (.int .u64 128)))), (.op (some 0) none (.mv (.t 15)))])))))) (.seq (.reg [(.op (some 16) none (.mv (.t 3))), (.op (some 17) none (.mv (.t 0))), (.op (some 18) none (.cvt .u8
  (.t 17))), (.op (some 19) none (.bsl 5 1 [(.int .u8 0)] [(0, (1, (.t 18)))])), (.op (some 20) none (.b2s 5 (.t 19))), (.op (some 21) none (.bin .add (.t 16) (.t 20))),
  (.op (some 2) none (.mv (.t 21)))]) .ret)))), [(.t 2)]⟩
def k51 : KFunc := ⟨9, (.seq (.reg [(.op (some 2) none (.mv (.c (.string (bs [])))))]) (.seq (.reg [(.op (some 3) none (.mv (.t 0))), (.op (some 4) none (.lenS (.t 3))),
  (.op (some 5) none (.cvt .u64 (.t 4))), (.op (some 6) none (.call 50 [(.t 5)])), (.op (some 7) none (.mv (.t 0))), (.op (some 8) none (.bin .add (.t 6) (.t 7))),
  (.op (some 2) none (.mv (.t 8)))]) .ret)), [(.t 2)]⟩
def k52 : KFunc := ⟨28, (.seq (.reg [(.op (some 6) none (.mv (.c (.pointer none))))]) (.seq (.seq (.reg [(.op (some 7) none (.mv (.t 0))), (.op (some 8) none (.eqv .ptr false
  (.t 7) (.c (.pointer none))))]) (.cond (.t 8) (.seq (.reg [(.op (some 6) none (.mv (.c (.pointer none))))]) .ret) .skip)) (.seq (.seq (.reg [(.op (some 9) none (.mv (.t 2))),
  (.op (some 10) none (.call 105 [(.t 9)])), (.op (some 11) none (.mv (.c (.int .i64 0))))]) (.block 0 (.loop (.seq (.reg [(.op (some 12) none (.bin .lss (.t 11) (.t 10)))]) (.seq
  (.cond (.t 12) .skip (.exit 0)) (.seq (.block 1 (.seq (.reg [(.op (some 13) none (.mv (.t 0))), (.op (some 14) none (.mv (.t 0))), (.op (some 15) none (.nck (.t 14))),
  (.op (some 16) none (.fad 0 (.t 15))), (.op (some 17) none (.ld (.t 16))), (.op (some 18) none (.mv (.t 1))), (.op (some 19) none (.cvt .u8 (.t 18))), (.op (some 20) none
  (.bsl 5 1 [(.int .u8 0)] [(0, (1, (.t 19)))])), (.op (some 21) none (.app 5 1 1 (.t 17) (.t 20))), (.op (some 22) none (.nck (.t 13))), (.op (some 23) none (.fad 0 (.t 22))),
  (.op none none (.st (.t 23) (.t 21)))]) (.reg [(.op (some 24) none (.mv (.t 1))), (.op (some 25) none (.bin .shr (.t 24) (.c (.int .u64 8)))), (.op (some 1) none (.mv
  (.t 25)))]))) (.reg [(.op (some 26) none (.bin .add (.t 11) (.c (.int .i64 1)))), (.op (some 11) none (.mv (.t 26)))]))))))) (.seq (.reg [(.op (some 27) none (.mv (.t 0))),
  (.op (some 6) none (.mv (.t 27)))]) .ret)))), [(.t 6)]⟩
def k53 : KFunc := ⟨35, (.seq (.reg [(.op (some 4) none (.mv (.c (.pointer none))))]) (.seq (.seq (.reg [(.op (some 5) none (.mv (.t 0))), (.op (some 6) none (.eqv .ptr false
  (.t 5) (.c (.pointer none))))]) (.cond (.t 6) (.seq (.reg [(.op (some 4) none (.mv (.c (.pointer none))))]) .ret) .skip)) (.seq (.block 0 (.loop (.seq (.seq
  (.reg [(.op (some 7) none (.mv (.t 1))), (.op (some 8) none (.bin .gtr (.t 7) (.c (.int .u64 127))))]) (.cond (.t 8) .skip (.exit 0))) (.block 1 (.seq (.reg [(.op (some 9) none
  (.mv (.t 0))), (.op (some 10) none (.mv (.t 0))), (.op (some 11) none (.nck (.t 10))), (.op (some 12) none (.fad 0 (.t 11))), (.op (some 13) none (.ld (.t 12))),
  (.op (some 14) none (.mv (.t 1))), (.op (some 15) none (.cvt .u8 (.t 14))), (.op (some 16) none (.bin .or (.t 15) (.c (.int .u8 128)))), (.op (some 17) none
  (.bsl 5 1 [(.int .u8 0)] [(0, (1, (.t 16)))])), (.op (some 18) none (.app 5 1 1 (.t 13) (.t 17))), (.op (some 19) none (.nck (.t 9))), (.op (some 20) none (.fad 0 (.t 19))),
  (.op none none (.st (.t 20) (.t 18)))]) (.reg [(.op (some 21) none (.mv (.t 1))), (.op (some 22) none (.bin .shr (.t 21) (.c (.int .u64 7)))), (.op (some 1) none (.mv
  (.t 22)))])))))) (.seq (.reg [(.op (some 23) none (.mv (.t 0))), (.op (some 24) none (.mv (.t 0))), (.op (some 25) none (.nck (.t 24))), (.op (some 26) none (.fad 0 (.t 25))),
  (.op (some 27) none (.ld (.t 26))), (.op (some 28) none (.mv (.t 1))), (.op (some 29) none (.cvt .u8 (.t 28))), (.op (some 30) none (.bsl 5 1 [(.int .u8 0)] [(0, (1,
  (.t 29)))])), (.op (some 31) none (.app 5 1 1 (.t 27) (.t 30))), (.op (some 32) none (.nck (.t 23))), (.op (some 33) none (.fad 0 (.t 32))), (.op none none (.st (.t 33)
  (.t 31)))]) (.seq (.reg [(.op (some 34) none (.mv (.t 0))), (.op (some 4) none (.mv (.t 34)))]) .ret))))), [(.t 4)]⟩
def k54 : KFunc := ⟨12, (.seq (.reg [(.op (some 4) none (.mv (.c (.pointer none))))]) (.seq (.reg [(.op (some 5) none (.mv (.t 0))), (.op (some 6) none (.mv (.t 1))),
  (.op (some 7) none (.lenS (.t 6))), (.op (some 8) none (.cvt .u64 (.t 7))), (.op (some 9) none (.call 53 [(.t 5), (.t 8)])), (.op (some 10) none (.mv (.t 1))),
  (.op (some 11) none (.call 97 [(.t 9), (.t 10)])), (.op (some 4) none (.mv (.t 11)))]) .ret)), [(.t 4)]⟩
def k55 : KFunc := ⟨10, (.seq (.reg [(.op (some 2) none (.mv (.c (.string (bs [])))))]) (.seq (.seq (.reg [(.op (some 3) none (.mv (.t 0))), (.op (some 4) none (.eqv .ptr false
  (.t 3) (.c (.pointer none))))]) (.cond (.t 4) (.seq (.reg [(.op (some 2) none (.mv (.c (.string (bs [])))))]) .ret) .skip)) (.seq (.reg [(.op (some 5) none (.mv (.t 0))),
  (.op (some 6) none (.nck (.t 5))), (.op (some 7) none (.fad 0 (.t 6))), (.op (some 8) none (.ld (.t 7))), (.op (some 9) none (.b2s 5 (.t 8))), (.op (some 2) none (.mv
  (.t 9)))]) .ret))), [(.t 2)]⟩
def k57 : KFunc := ⟨12, (.seq (.reg [(.op (some 2) none (.mv (.c (.string (bs [])))))]) (.seq (.seq (.reg [(.op (some 3) none (.mv (.t 0))), (.op (some 4) none
  (.call 101 [(.t 3)]))]) (.cond (.t 4) (.seq (.reg [(.op (some 2) none (.mv (.c (.string (bs [])))))]) .ret) .skip)) (.seq (.reg [(.op (some 5) none (.mv (.t 0))),
  (.op (some 6) none (.mv (.t 0))), (.op (some 7) none (.nck (.t 6))), (.op (some 8) none (.fad 0 (.t 7))), (.op (some 9) none (.ld (.t 8))), (.op (some 10) none (.lenS (.t 9))),
  (.op (some 11) none (.call 102 [(.t 5), (.t 10)])), (.op (some 2) none (.mv (.t 11)))]) .ret))), [(.t 2)]⟩
def k58 : KFunc := ⟨52, (.seq (.reg [(.op (some 2) none (.mv (.c (.int .u64 0)))), (.op (some 3) none (.mv (.c (.int .i64 0))))]) (.seq (.reg [(.op (some 4) none (.mv (.c
  (.int .i64 0))))]) (.seq (.block 0 (.loop (.seq (.seq (.reg [(.op (some 7) none (.mv (.t 4))), (.op (some 8) none (.mv (.t 0))), (.op (some 9) none (.lenS (.t 8))),
  (.op (some 10) none (.bin .lss (.t 7) (.t 9))), (.op (some 11) none (.mv (.t 10))), (.op (some 12) (some (11, true)) (.mv (.t 0))), (.op (some 13) (some (11, true)) (.mv
  (.t 4))), (.op (some 14) (some (11, true)) (.idS (.t 12) (.t 13))), (.op (some 15) (some (11, true)) (.bin .geq (.t 14) (.c (.int .u8 128)))), (.op (some 16) none (.pick (.t 11)
  (.t 15) (.c (.bool false))))]) (.cond (.t 16) .skip (.exit 0))) (.block 1 (.reg [(.op (some 17) none (.mv (.t 4))), (.op (some 18) none (.bin .add (.t 17) (.c (.int .i64 1)))),
  (.op (some 4) none (.mv (.t 18)))]))))) (.seq (.seq (.reg [(.op (some 19) none (.mv (.t 4))), (.op (some 20) none (.mv (.t 0))), (.op (some 21) none (.lenS (.t 20))),
  (.op (some 22) none (.bin .eql (.t 19) (.t 21))), (.op (some 23) none (.mv (.t 22))), (.op (some 24) (some (23, false)) (.mv (.t 4))), (.op (some 25) (some (23, false))
  (.bin .gtr (.t 24) (.c (.int .i64 9)))), (.op (some 26) none (.pick (.t 23) (.c (.bool true)) (.t 25)))]) (.cond (.t 26) (.seq (.reg [(.op (some 2) none (.mv (.c
  (.int .u64 0)))), (.op (some 3) none (.mv (.c (.int .i64 0))))]) .ret) .skip)) (.seq (.reg [(.op (some 5) none (.mv (.c (.int .u64 0))))]) (.seq (.seq (.reg [(.op (some 27) none
  (.mv (.t 4))), (.op (some 6) none (.mv (.t 27)))]) (.block 2 (.loop (.seq (.seq (.reg [(.op (some 28) none (.mv (.t 6))), (.op (some 29) none (.bin .geq (.t 28) (.c
  (.int .i64 0))))]) (.cond (.t 29) .skip (.exit 2))) (.seq (.block 3 (.seq (.seq (.reg [(.op (some 32) none (.mv (.t 5))), (.op (some 33) none (.bin .gtr (.t 32) (.c
  (.int .u64 144115188075855871))))]) (.cond (.t 33) (.seq (.reg [(.op (some 2) none (.mv (.c (.int .u64 0)))), (.op (some 3) none (.mv (.c (.int .i64 0))))]) .ret) .skip))
  (.reg [(.op (some 34) none (.mv (.t 5))), (.op (some 35) none (.bin .mul (.t 34) (.c (.int .u64 128)))), (.op (some 36) none (.mv (.t 0))), (.op (some 37) none (.mv (.t 6))),
  (.op (some 38) none (.idS (.t 36) (.t 37))), (.op (some 39) none (.bin .rem (.t 38) (.c (.int .u8 128)))), (.op (some 40) none (.cvt .u64 (.t 39))), (.op (some 41) none
  (.bin .add (.t 35) (.t 40))), (.op (some 5) none (.mv (.t 41)))]))) (.reg [(.op (some 30) none (.mv (.t 6))), (.op (some 31) none (.bin .sub (.t 30) (.c (.int .i64 1)))),
  (.op (some 6) none (.mv (.t 31)))])))))) (.seq (.seq (.reg [(.op (some 42) none (.mv (.t 5))), (.op (some 44) none (.mv (.t 0))), (.op (some 45) none (.mv (.t 4))),
  (.op (some 46) none (.bin .add (.t 45) (.c (.int .i64 1)))), (.op (some 47) none (.slS (.t 44) none (some (.t 46)))), (.op (some 43) none (.call 50 [(.t 42)])),
  (.op (some 48) none (.bin .neq (.t 43) (.t 47)))]) (.cond (.t 48) (.seq (.reg [(.op (some 2) none (.mv (.c (.int .u64 0)))), (.op (some 3) none (.mv (.c
  (.int .i64 0))))]) .ret) .skip)) (.seq (.reg [(.op (some 49) none (.mv (.t 5))), (.op (some 50) none (.mv (.t 4))), (.op (some 51) none (.bin .add (.t 50) (.c (.int .i64 1)))),
  (.op (some 2) none (.mv (.t 49))), (.op (some 3) none (.mv (.t 51)))]) .ret)))))))), [(.t 2), (.t 3)]⟩
def k94 : KFunc := ⟨9, (.seq (.reg [(.op (some 2) none (.mv (.c (.string (bs [])))))]) (.seq (.reg [(.op (some 3) none (.mv (.t 0))), (.op (some 4) none (.lenS (.t 3))),
  (.op (some 5) none (.call 96 [(.c (.int .i64 0)), (.t 4)])), (.op (some 6) none (.mv (.t 0))), (.op (some 7) none (.call 97 [(.t 5), (.t 6)])), (.op (some 8) none
  (.call 55 [(.t 7)])), (.op (some 2) none (.mv (.t 8)))]) .ret)), [(.t 2)]⟩
def k95 : KFunc := ⟨14, (.seq (.reg [(.op (some 2) none (.mv (.c (.bool false))))]) (.seq (.reg [(.op (some 3) none (.mv (.t 0))), (.op (some 4) none (.bin .neq (.t 3) (.c
  (.string (bs []))))), (.op (some 5) none (.mv (.t 4))), (.op (some 6) (some (5, true)) (.mv (.t 0))), (.op (some 7) (some (5, true)) (.mv (.t 0))), (.op (some 8) (some (5,
  true)) (.slS (.t 7) none (some (.c (.int .i64 1))))), (.op (some 9) (some (5, true)) (.mv (.t 0))), (.op (some 10) (some (5, true)) (.lenS (.t 9))), (.op (some 11) (some (5,
  true)) (.call 103 [(.t 8), (.t 10)])), (.op (some 12) (some (5, true)) (.bin .eql (.t 6) (.t 11))), (.op (some 13) none (.pick (.t 5) (.t 12) (.c (.bool false)))),
  (.op (some 2) none (.mv (.t 13)))]) .ret)), [(.t 2)]⟩
def k96 : KFunc := ⟨12, (.seq (.reg [(.op (some 4) none (.mv (.c (.pointer none))))]) (.seq (.reg [(.op (some 5) none (.alloc 74 [(.slice none 0 0)]))]) (.seq
  (.reg [(.op (some 6) none (.mv (.t 0))), (.op (some 7) none (.cvt .u64 (.t 6))), (.op (some 8) none (.call 52 [(.t 5), (.t 7), (.c (.int .i64 1))])), (.op (some 9) none (.mv
  (.t 1))), (.op (some 10) none (.cvt .u64 (.t 9))), (.op (some 11) none (.call 53 [(.t 8), (.t 10)])), (.op (some 4) none (.mv (.t 11)))]) .ret))), [(.t 4)]⟩
def k97 : KFunc := ⟨17, (.seq (.reg [(.op (some 4) none (.mv (.c (.pointer none))))]) (.seq (.seq (.reg [(.op (some 5) none (.mv (.t 0))), (.op (some 6) none (.eqv .ptr false
  (.t 5) (.c (.pointer none))))]) (.cond (.t 6) (.seq (.reg [(.op (some 4) none (.mv (.c (.pointer none))))]) .ret) .skip)) (.seq (.reg [(.op (some 7) none (.mv (.t 0))),
  (.op (some 8) none (.mv (.t 0))), (.op (some 9) none (.nck (.t 8))), (.op (some 10) none (.fad 0 (.t 9))), (.op (some 11) none (.ld (.t 10))), (.op (some 12) none (.mv (.t 1))),
  (.op (some 13) none (.appS 5 (.t 11) (.t 12))), (.op (some 14) none (.nck (.t 7))), (.op (some 15) none (.fad 0 (.t 14))), (.op none none (.st (.t 15) (.t 13)))]) (.seq
  (.reg [(.op (some 16) none (.mv (.t 0))), (.op (some 4) none (.mv (.t 16)))]) .ret)))), [(.t 4)]⟩
def k98 : KFunc := ⟨39, (.seq (.reg [(.op (some 2) none (.mv (.c (.string (bs []))))), (.op (some 3) none (.mv (.c (.bool false))))]) (.seq (.reg [(.op (some 10) none (.mv
  (.t 0))), (.op (some 11) none (.s2b 5 (.t 10))), (.op (some 12) none (.call 45 [(.t 11)])), (.op (some 13) none (.call 38 [(.t 12)])), (.op (some 9) none (.mv (.t 13))),
  (.op (some 14) none (.xt (.t 9) 0)), (.op (some 15) none (.xt (.t 9) 1)), (.op (some 4) none (.mv (.t 14))), (.op (some 5) none (.mv (.t 15)))]) (.seq (.seq
  (.reg [(.op (some 16) none (.mv (.t 5))), (.op (some 17) none (.un .not (.t 16)))]) (.cond (.t 17) (.seq (.reg [(.op (some 2) none (.mv (.c (.string (bs []))))),
  (.op (some 3) none (.mv (.c (.bool false))))]) .ret) .skip)) (.seq (.reg [(.op (some 19) none (.mv (.t 4))), (.op (some 20) none (.call 26 [(.t 19)])), (.op (some 18) none (.mv
  (.t 20))), (.op (some 21) none (.xt (.t 18) 0)), (.op (some 22) none (.xt (.t 18) 1)), (.op (some 6) none (.mv (.t 21))), (.op (some 7) none (.mv (.t 22)))]) (.seq
  (.reg [(.op (some 24) none (.mv (.t 4))), (.op (some 25) none (.mv (.t 0))), (.op (some 26) none (.s2b 5 (.t 25))), (.op (some 27) none (.call 25 [(.t 24), (.t 26)])),
  (.op (some 23) none (.mv (.t 27))), (.op (some 28) none (.xt (.t 23) 0)), (.op (some 29) none (.xt (.t 23) 1)), (.op (some 8) none (.mv (.t 28))), (.op (some 5) none (.mv
  (.t 29)))]) (.seq (.reg [(.op (some 30) none (.mv (.t 0))), (.op (some 31) none (.lenS (.t 30))), (.op (some 32) none (.call 96 [(.c (.int .i64 2)), (.t 31)])),
  (.op (some 33) none (.mv (.t 6))), (.op (some 34) none (.call 97 [(.t 32), (.t 33)])), (.op (some 35) none (.mv (.t 8))), (.op (some 36) none (.call 54 [(.t 34), (.t 35)])),
  (.op (some 37) none (.call 55 [(.t 36)])), (.op (some 38) none (.mv (.t 5))), (.op (some 2) none (.mv (.t 37))), (.op (some 3) none (.mv (.t 38)))]) .ret)))))), [(.t 2), (.t 3)]⟩
def k99 : KFunc := ⟨28, (.seq (.reg [(.op (some 4) none (.mv (.c (.int .u64 0))))]) (.seq (.reg [(.op (some 5) none (.mv (.c (.int .u64 0))))]) (.seq (.seq
  (.reg [(.op (some 8) none (.mv (.t 0))), (.op (some 9) none (.mv (.t 1))), (.op (some 10) none (.call 105 [(.t 9)])), (.op (some 11) none (.call 102 [(.t 8), (.t 10)])),
  (.op (some 12) none (.s2b 5 (.t 11))), (.op (some 13) none (.lenL (.t 12))), (.op (some 14) none (.mv (.c (.int .i64 0))))]) (.block 0 (.loop (.seq (.reg [(.op (some 15) none
  (.bin .lss (.t 14) (.t 13)))]) (.seq (.cond (.t 15) .skip (.exit 0)) (.seq (.block 1 (.seq (.reg [(.op (some 16) none (.mv (.t 14))), (.op (some 17) none (.iad 1 (.t 12)
  (.t 14))), (.op (some 18) none (.ld (.t 17))), (.op (some 6) none (.mv (.t 16))), (.op (some 7) none (.mv (.t 18)))]) (.reg [(.op (some 19) none (.mv (.t 5))),
  (.op (some 20) none (.mv (.t 7))), (.op (some 21) none (.cvt .u64 (.t 20))), (.op (some 22) none (.mv (.t 6))), (.op (some 23) none (.bin .mul (.c (.int .i64 8)) (.t 22))),
  (.op (some 24) none (.bin .shl (.t 21) (.t 23))), (.op (some 25) none (.bin .or (.t 19) (.t 24))), (.op (some 5) none (.mv (.t 25)))]))) (.reg [(.op (some 26) none (.bin .add
  (.t 14) (.c (.int .i64 1)))), (.op (some 14) none (.mv (.t 26)))]))))))) (.seq (.reg [(.op (some 27) none (.mv (.t 5))), (.op (some 4) none (.mv (.t 27)))]) .ret)))), [(.t 4)]⟩
def k100 : KFunc := ⟨24, (.seq (.reg [(.op (some 4) none (.mv (.c (.int .i64 0))))]) (.seq (.reg [(.op (some 6) none (.mv (.t 0))), (.op (some 7) none (.call 125 [(.t 6)])),
  (.op (some 5) none (.mv (.t 7)))]) (.seq (.seq (.reg [(.op (some 8) none (.mv (.t 0))), (.op (some 9) none (.call 101 [(.t 8)])), (.op (some 10) none (.mv (.t 9))),
  (.op (some 11) (some (10, false)) (.mv (.t 1))), (.op (some 12) (some (10, false)) (.bin .lss (.t 11) (.c (.int .i64 0)))), (.op (some 13) none (.pick (.t 10) (.c (.bool true))
  (.t 12))), (.op (some 14) none (.mv (.t 13))), (.op (some 15) (some (14, false)) (.mv (.t 5))), (.op (some 16) (some (14, false)) (.mv (.t 1))), (.op (some 17) (some (14,
  false)) (.cvt .u64 (.t 16))), (.op (some 18) (some (14, false)) (.bin .gtr (.t 15) (.t 17))), (.op (some 19) none (.pick (.t 14) (.c (.bool true)) (.t 18)))]) (.cond (.t 19)
  (.seq (.reg [(.op (some 20) none (.mv (.t 0))), (.op (some 21) none (.call 126 [(.t 20)]))]) (.seq (.reg [(.op (some 4) none (.mv (.c (.int .i64 0))))]) .ret)) .skip)) (.seq
  (.reg [(.op (some 22) none (.mv (.t 5))), (.op (some 23) none (.cvt .i64 (.t 22))), (.op (some 4) none (.mv (.t 23)))]) .ret)))), [(.t 4)]⟩
def k101 : KFunc := ⟨11, (.seq (.reg [(.op (some 2) none (.mv (.c (.bool false))))]) (.seq (.reg [(.op (some 3) none (.mv (.t 0))), (.op (some 4) none (.eqv .ptr false (.t 3) (.c
  (.pointer none)))), (.op (some 5) none (.mv (.t 4))), (.op (some 6) (some (5, false)) (.mv (.t 0))), (.op (some 7) (some (5, false)) (.nck (.t 6))), (.op (some 8) (some (5,
  false)) (.fad 1 (.t 7))), (.op (some 9) (some (5, false)) (.ld (.t 8))), (.op (some 10) none (.pick (.t 5) (.c (.bool true)) (.t 9))), (.op (some 2) none (.mv
  (.t 10)))]) .ret)), [(.t 2)]⟩
def k102 : KFunc := ⟨37, (.seq (.reg [(.op (some 4) none (.mv (.c (.string (bs [])))))]) (.seq (.reg [(.op (some 6) none (.mv (.t 1))), (.op (some 7) none (.mx (.t 6) [(.c
  (.int .i64 0))])), (.op (some 1) none (.mv (.t 7)))]) (.seq (.seq (.reg [(.op (some 8) none (.mv (.t 0))), (.op (some 9) none (.call 101 [(.t 8)])), (.op (some 10) none (.mv
  (.t 9))), (.op (some 11) (some (10, false)) (.mv (.t 0))), (.op (some 12) (some (10, false)) (.nck (.t 11))), (.op (some 13) (some (10, false)) (.fad 0 (.t 12))),
  (.op (some 14) (some (10, false)) (.ld (.t 13))), (.op (some 15) (some (10, false)) (.lenS (.t 14))), (.op (some 16) (some (10, false)) (.mv (.t 1))), (.op (some 17) (some (10,
  false)) (.bin .lss (.t 15) (.t 16))), (.op (some 18) none (.pick (.t 10) (.c (.bool true)) (.t 17)))]) (.cond (.t 18) (.seq (.reg [(.op (some 19) none (.mv (.t 0))),
  (.op (some 20) none (.call 126 [(.t 19)]))]) (.seq (.reg [(.op (some 4) none (.mv (.c (.string (bs [])))))]) .ret)) .skip)) (.seq (.reg [(.op (some 21) none (.mv (.t 0))),
  (.op (some 22) none (.nck (.t 21))), (.op (some 23) none (.fad 0 (.t 22))), (.op (some 24) none (.ld (.t 23))), (.op (some 25) none (.mv (.t 1))), (.op (some 26) none (.slS
  (.t 24) none (some (.t 25)))), (.op (some 5) none (.mv (.t 26)))]) (.seq (.reg [(.op (some 27) none (.mv (.t 0))), (.op (some 28) none (.mv (.t 0))), (.op (some 29) none (.nck
  (.t 28))), (.op (some 30) none (.fad 0 (.t 29))), (.op (some 31) none (.ld (.t 30))), (.op (some 32) none (.mv (.t 1))), (.op (some 33) none (.slS (.t 31) (some (.t 32)) none)),
  (.op (some 34) none (.nck (.t 27))), (.op (some 35) none (.fad 0 (.t 34))), (.op none none (.st (.t 35) (.t 33)))]) (.seq (.reg [(.op (some 36) none (.mv (.t 5))),
  (.op (some 4) none (.mv (.t 36)))]) .ret)))))), [(.t 4)]⟩
def k104 : KFunc := ⟨31, (.seq (.reg [(.op (some 4) none (.mv (.c (.string (bs []))))), (.op (some 5) none (.mv (.c (.bool false))))]) (.seq (.reg [(.op (some 11) none (.mv
  (.t 0))), (.op (some 12) none (.call 130 [(.t 11)])), (.op (some 10) none (.mv (.t 12))), (.op (some 13) none (.xt (.t 10) 0)), (.op (some 14) none (.xt (.t 10) 1)),
  (.op (some 6) none (.mv (.t 13))), (.op (some 7) none (.mv (.t 14)))]) (.seq (.seq (.reg [(.op (some 15) none (.mv (.t 7))), (.op (some 16) none (.un .not (.t 15)))]) (.cond
  (.t 16) (.seq (.reg [(.op (some 4) none (.mv (.c (.string (bs []))))), (.op (some 5) none (.mv (.c (.bool false))))]) .ret) .skip)) (.seq (.reg [(.op (some 17) none (.mv
  (.t 0))), (.op (some 18) none (.call 106 [(.t 17), (.c (.int .i64 1048576))])), (.op (some 8) none (.mv (.t 18)))]) (.seq (.seq (.reg [(.op (some 19) none (.mv (.t 0))),
  (.op (some 20) none (.call 101 [(.t 19)]))]) (.cond (.t 20) (.seq (.reg [(.op (some 4) none (.mv (.c (.string (bs []))))), (.op (some 5) none (.mv (.c
  (.bool false))))]) .ret) .skip)) (.seq (.reg [(.op (some 22) none (.mv (.t 6))), (.op (some 23) none (.mv (.t 8))), (.op (some 24) none (.mv (.t 1))), (.op (some 25) none
  (.call 23 [(.t 22), (.t 23), (.t 24)])), (.op (some 21) none (.mv (.t 25))), (.op (some 26) none (.xt (.t 21) 0)), (.op (some 27) none (.xt (.t 21) 1)), (.op (some 9) none (.mv
  (.t 26))), (.op (some 7) none (.mv (.t 27)))]) (.seq (.reg [(.op (some 28) none (.mv (.t 9))), (.op (some 29) none (.b2s 5 (.t 28))), (.op (some 30) none (.mv (.t 7))),
  (.op (some 4) none (.mv (.t 29))), (.op (some 5) none (.mv (.t 30)))]) .ret))))))), [(.t 4), (.t 5)]⟩
def k105 : KFunc := ⟨6, (.seq (.reg [(.op (some 2) none (.mv (.c (.int .i64 0))))]) (.seq (.reg [(.op (some 3) none (.mv (.t 0))), (.op (some 4) none (.mx (.t 3) [(.c
  (.int .i64 0))])), (.op (some 5) none (.mn (.t 4) [(.c (.int .i64 8))])), (.op (some 2) none (.mv (.t 5)))]) .ret)), [(.t 2)]⟩
def k106 : KFunc := ⟨10, (.seq (.reg [(.op (some 4) none (.mv (.c (.string (bs [])))))]) (.seq (.reg [(.op (some 5) none (.mv (.t 0))), (.op (some 6) none (.mv (.t 0))),
  (.op (some 7) none (.mv (.t 1))), (.op (some 8) none (.call 100 [(.t 6), (.t 7)])), (.op (some 9) none (.call 102 [(.t 5), (.t 8)])), (.op (some 4) none (.mv (.t 9)))]) .ret)),
  [(.t 4)]⟩
def k125 : KFunc := ⟨44, (.seq (.reg [(.op (some 2) none (.mv (.c (.int .u64 0))))]) (.seq (.reg [(.op (some 3) none (.mv (.c (.int .u64 0))))]) (.seq (.seq
  (.reg [(.op (some 7) none (.mv (.c (.int .i64 0))))]) (.block 0 (.loop (.seq (.reg [(.op (some 8) none (.bin .lss (.t 7) (.c (.int .i64 10))))]) (.seq (.cond (.t 8) .skip
  (.exit 0)) (.seq (.block 1 (.seq (.reg [(.op (some 9) none (.mv (.t 7))), (.op (some 4) none (.mv (.t 9)))]) (.seq (.reg [(.op (some 10) none (.mv (.t 0))), (.op (some 11) none
  (.call 102 [(.t 10), (.c (.int .i64 1))])), (.op (some 5) none (.mv (.t 11)))]) (.seq (.seq (.reg [(.op (some 12) none (.mv (.t 5))), (.op (some 13) none (.bin .eql (.t 12) (.c
  (.string (bs [])))))]) (.cond (.t 13) (.seq (.reg [(.op (some 2) none (.mv (.c (.int .u64 0))))]) .ret) .skip)) (.seq (.reg [(.op (some 14) none (.mv (.t 5))),
  (.op (some 15) none (.idS (.t 14) (.c (.int .i64 0)))), (.op (some 16) none (.cvt .u64 (.t 15))), (.op (some 6) none (.mv (.t 16)))]) (.seq (.seq (.reg [(.op (some 17) none (.mv
  (.t 4))), (.op (some 18) none (.bin .eql (.t 17) (.c (.int .i64 9)))), (.op (some 19) none (.mv (.t 18))), (.op (some 20) (some (19, true)) (.mv (.t 6))),
  (.op (some 21) (some (19, true)) (.bin .gtr (.t 20) (.c (.int .u64 1)))), (.op (some 22) none (.pick (.t 19) (.t 21) (.c (.bool false)))), (.op (some 23) none (.mv (.t 22))),
  (.op (some 24) (some (23, false)) (.mv (.t 4))), (.op (some 25) (some (23, false)) (.bin .gtr (.t 24) (.c (.int .i64 0)))), (.op (some 26) (some (23, false)) (.mv (.t 25))),
  (.op (some 27) (some (26, true)) (.mv (.t 6))), (.op (some 28) (some (26, true)) (.bin .eql (.t 27) (.c (.int .u64 0)))), (.op (some 29) (some (23, false)) (.pick (.t 26)
  (.t 28) (.c (.bool false)))), (.op (some 30) none (.pick (.t 23) (.c (.bool true)) (.t 29)))]) (.cond (.t 30) (.exit 0) .skip)) (.seq (.reg [(.op (some 31) none (.mv (.t 3))),
  (.op (some 32) none (.mv (.t 6))), (.op (some 33) none (.bin .and (.t 32) (.c (.int .u64 127)))), (.op (some 34) none (.mv (.t 4))), (.op (some 35) none (.bin .mul (.c
  (.int .i64 7)) (.t 34))), (.op (some 36) none (.bin .shl (.t 33) (.t 35))), (.op (some 37) none (.bin .or (.t 31) (.t 36))), (.op (some 3) none (.mv (.t 37)))]) (.seq
  (.reg [(.op (some 38) none (.mv (.t 6))), (.op (some 39) none (.bin .lss (.t 38) (.c (.int .u64 128))))]) (.cond (.t 39) (.seq (.reg [(.op (some 40) none (.mv (.t 3))),
  (.op (some 2) none (.mv (.t 40)))]) .ret) .skip))))))))) (.reg [(.op (some 41) none (.bin .add (.t 7) (.c (.int .i64 1)))), (.op (some 7) none (.mv (.t 41)))]))))))) (.seq
  (.reg [(.op (some 42) none (.mv (.t 0))), (.op (some 43) none (.call 126 [(.t 42)]))]) (.seq (.reg [(.op (some 2) none (.mv (.c (.int .u64 0))))]) .ret))))), [(.t 2)]⟩
def k126 : KFunc := ⟨10, (.seq (.reg [(.op (some 2) none (.mv (.t 0))), (.op (some 3) none (.eqv .ptr true (.t 2) (.c (.pointer none))))]) (.cond (.t 3) (.reg [(.op (some 4) none
  (.mv (.t 0))), (.op (some 5) none (.mv (.t 0))), (.op (some 6) none (.nck (.t 4))), (.op (some 7) none (.fad 0 (.t 6))), (.op none none (.st (.t 7) (.c (.string (bs []))))),
  (.op (some 8) none (.nck (.t 5))), (.op (some 9) none (.fad 1 (.t 8))), (.op none none (.st (.t 9) (.c (.bool true))))]) .skip)), []⟩
def k130 : KFunc := ⟨69, (.seq (.reg [(.op (some 2) none (.mv (.c (.slice none 0 0)))), (.op (some 3) none (.mv (.c (.bool false))))]) (.seq (.reg [(.op (some 9) none (.mv
  (.t 0))), (.op (some 10) none (.call 99 [(.t 9), (.c (.int .i64 1))])), (.op (some 11) none (.cvt .i64 (.t 10))), (.op (some 12) none (.bin .add (.t 11) (.c (.int .i64 1)))),
  (.op (some 4) none (.mv (.t 12)))]) (.seq (.reg [(.op (some 13) none (.mv (.t 0))), (.op (some 14) none (.mv (.t 4))), (.op (some 15) none (.bin .add (.t 14) (.c
  (.int .i64 1)))), (.op (some 16) none (.bin .quo (.t 15) (.c (.int .i64 2)))), (.op (some 17) none (.call 102 [(.t 13), (.t 16)])), (.op (some 5) none (.mv (.t 17)))]) (.seq
  (.seq (.reg [(.op (some 18) none (.mv (.t 0))), (.op (some 19) none (.call 101 [(.t 18)]))]) (.cond (.t 19) (.seq (.reg [(.op (some 2) none (.mv (.c (.slice none 0 0)))),
  (.op (some 3) none (.mv (.c (.bool false))))]) .ret) .skip)) (.seq (.reg [(.op (some 20) none (.mv (.t 4))), (.op (some 21) none (.bin .add (.t 20) (.c (.int .i64 1)))),
  (.op (some 22) none (.mks 3 [(.int .i64 0)] 8 (.c (.int .i64 0)) (.t 21))), (.op (some 6) none (.mv (.t 22)))]) (.seq (.seq (.reg [(.op (some 23) none (.mv (.t 5))),
  (.op (some 24) none (.s2b 5 (.t 23))), (.op (some 25) none (.lenL (.t 24))), (.op (some 26) none (.mv (.c (.int .i64 0))))]) (.block 0 (.loop (.seq (.reg [(.op (some 27) none
  (.bin .lss (.t 26) (.t 25)))]) (.seq (.cond (.t 27) .skip (.exit 0)) (.seq (.block 1 (.seq (.reg [(.op (some 28) none (.iad 1 (.t 24) (.t 26))), (.op (some 29) none (.ld
  (.t 28))), (.op (some 8) none (.mv (.t 29)))]) (.reg [(.op (some 30) none (.mv (.t 6))), (.op (some 31) none (.mv (.t 8))), (.op (some 32) none (.bin .and (.t 31) (.c
  (.int .u8 15)))), (.op (some 33) none (.cvt .i64 (.t 32))), (.op (some 34) none (.mv (.t 8))), (.op (some 35) none (.bin .shr (.t 34) (.c (.int .u64 4)))), (.op (some 36) none
  (.cvt .i64 (.t 35))), (.op (some 37) none (.bsl 3 2 [(.int .i64 0), (.int .i64 0)] [(0, (1, (.t 33))), (1, (1, (.t 36)))])), (.op (some 38) none (.app 3 1 8 (.t 30) (.t 37))),
  (.op (some 6) none (.mv (.t 38)))]))) (.reg [(.op (some 39) none (.bin .add (.t 26) (.c (.int .i64 1)))), (.op (some 26) none (.mv (.t 39)))]))))))) (.seq (.seq
  (.reg [(.op (some 40) none (.mv (.t 6))), (.op (some 41) none (.lenL (.t 40))), (.op (some 42) none (.mv (.t 4))), (.op (some 43) none (.bin .gtr (.t 41) (.t 42))),
  (.op (some 44) none (.mv (.t 43))), (.op (some 45) (some (44, true)) (.mv (.t 6))), (.op (some 46) (some (44, true)) (.mv (.t 4))), (.op (some 47) (some (44, true)) (.iad 1
  (.t 45) (.t 46))), (.op (some 48) (some (44, true)) (.ld (.t 47))), (.op (some 49) (some (44, true)) (.bin .neq (.t 48) (.c (.int .i64 0)))), (.op (some 50) none (.pick (.t 44)
  (.t 49) (.c (.bool false)))), (.op (some 51) none (.mv (.t 50))), (.op (some 52) (some (51, false)) (.mv (.t 6))), (.op (some 53) (some (51, false)) (.mv (.t 4))),
  (.op (some 54) (some (51, false)) (.bin .sub (.t 53) (.c (.int .i64 1)))), (.op (some 55) (some (51, false)) (.iad 1 (.t 52) (.t 54))), (.op (some 56) (some (51, false)) (.ld
  (.t 55))), (.op (some 57) (some (51, false)) (.bin .eql (.t 56) (.c (.int .i64 0)))), (.op (some 58) none (.pick (.t 51) (.c (.bool true)) (.t 57))), (.op (some 59) none (.mv
  (.t 58))), (.op (some 60) (some (59, false)) (.mv (.t 6))), (.op (some 61) (some (59, false)) (.mv (.t 4))), (.op (some 62) (some (59, false)) (.slc 3 1 (.t 60) none (some
  (.t 61)))), (.op (some 63) (some (59, false)) (.call 61 [(.t 62)])), (.op (some 64) (some (59, false)) (.un .not (.t 63))), (.op (some 65) none (.pick (.t 59) (.c (.bool true))
  (.t 64)))]) (.cond (.t 65) (.seq (.reg [(.op (some 2) none (.mv (.c (.slice none 0 0)))), (.op (some 3) none (.mv (.c (.bool false))))]) .ret) .skip)) (.seq
  (.reg [(.op (some 66) none (.mv (.t 6))), (.op (some 67) none (.mv (.t 4))), (.op (some 68) none (.slc 3 1 (.t 66) none (some (.t 67)))), (.op (some 2) none (.mv (.t 68))),
  (.op (some 3) none (.mv (.c (.bool true))))]) .ret)))))))), [(.t 2), (.t 3)]⟩
def k22 : KFunc := ⟨40, (.seq (.reg [(.op (some 2) none (.mv (.c (.bool false))))]) (.seq (.seq (.reg [(.op (some 6) none (.mv (.t 0))), (.op (some 7) none (.call 59 [(.t 6)])),
  (.op (some 8) none (.un .not (.t 7)))]) (.cond (.t 8) (.seq (.reg [(.op (some 2) none (.mv (.c (.bool false))))]) .ret) .skip)) (.seq (.reg [(.op (some 3) none (.mv (.c
  (.int .i64 0))))]) (.seq (.reg [(.op (some 4) none (.mv (.c (.int .i64 0))))]) (.seq (.seq (.reg [(.op (some 5) none (.mv (.c (.int .i64 0))))]) (.block 0 (.loop (.seq (.seq
  (.reg [(.op (some 9) none (.mv (.t 5))), (.op (some 10) none (.mv (.t 0))), (.op (some 11) none (.lenL (.t 10))), (.op (some 12) none (.bin .lss (.t 9) (.t 11)))]) (.cond
  (.t 12) .skip (.exit 0))) (.seq (.block 1 (.seq (.reg [(.op (some 15) none (.mv (.t 0))), (.op (some 16) none (.mv (.t 5))), (.op (some 17) none (.iad 1 (.t 15) (.t 16))),
  (.op (some 18) none (.ld (.t 17))), (.op (some 19) none (.bin .gtr (.t 18) (.c (.int .i64 0))))]) (.cond (.t 19) (.seq (.reg [(.op (some 20) none (.mv (.t 3))),
  (.op (some 21) none (.mv (.t 0))), (.op (some 22) none (.mv (.t 5))), (.op (some 23) none (.iad 1 (.t 21) (.t 22))), (.op (some 24) none (.ld (.t 23))), (.op (some 25) none
  (.bin .sub (.c (.int .i64 11)) (.t 24))), (.op (some 26) none (.call 60 [(.t 25)])), (.op (some 27) none (.bin .add (.t 20) (.t 26))), (.op (some 3) none (.mv (.t 27)))])
  (.reg [(.op (some 28) none (.mv (.t 4))), (.op (some 29) none (.bin .add (.t 28) (.c (.int .i64 1)))), (.op (some 4) none (.mv (.t 29)))])) .skip))) (.reg [(.op (some 13) none
  (.mv (.t 5))), (.op (some 14) none (.bin .add (.t 13) (.c (.int .i64 1)))), (.op (some 5) none (.mv (.t 14)))])))))) (.seq (.reg [(.op (some 30) none (.mv (.t 3))),
  (.op (some 31) none (.bin .eql (.t 30) (.c (.int .i64 2048)))), (.op (some 32) none (.mv (.t 31))), (.op (some 33) (some (32, false)) (.mv (.t 4))), (.op (some 34) (some (32,
  false)) (.bin .eql (.t 33) (.c (.int .i64 1)))), (.op (some 35) (some (32, false)) (.mv (.t 34))), (.op (some 36) (some (35, true)) (.mv (.t 3))), (.op (some 37) (some (35,
  true)) (.bin .eql (.t 36) (.c (.int .i64 1024)))), (.op (some 38) (some (32, false)) (.pick (.t 35) (.t 37) (.c (.bool false)))), (.op (some 39) none (.pick (.t 32) (.c
  (.bool true)) (.t 38))), (.op (some 2) none (.mv (.t 39)))]) .ret)))))), [(.t 2)]⟩
def k23 : KFunc := ⟨64, (.seq (.reg [(.op (some 6) none (.mv (.c (.slice none 0 0)))), (.op (some 7) none (.mv (.c (.bool false))))]) (.seq (.seq (.reg [(.op (some 16) none (.mv
  (.t 0))), (.op (some 17) none (.call 61 [(.t 16)])), (.op (some 18) none (.un .not (.t 17))), (.op (some 19) none (.mv (.t 18))), (.op (some 20) (some (19, false)) (.mv
  (.t 2))), (.op (some 21) (some (19, false)) (.bin .lss (.t 20) (.c (.int .i64 0)))), (.op (some 22) none (.pick (.t 19) (.c (.bool true)) (.t 21))), (.op (some 23) none (.mv
  (.t 22))), (.op (some 24) (some (23, false)) (.mv (.t 2))), (.op (some 25) (some (23, false)) (.bin .gtr (.t 24) (.c (.int .i64 1048576)))), (.op (some 26) none (.pick (.t 23)
  (.c (.bool true)) (.t 25)))]) (.cond (.t 26) (.seq (.reg [(.op (some 6) none (.mv (.c (.slice none 0 0)))), (.op (some 7) none (.mv (.c (.bool false))))]) .ret) .skip)) (.seq
  (.reg [(.op (some 27) none (.mv (.t 0))), (.op (some 28) none (.call 62 [(.t 27)])), (.op (some 29) none (.mv (.t 1))), (.op (some 30) none (.s2b 5 (.t 29))),
  (.op (some 31) none (.call 63 [(.t 30)])), (.op (some 8) none (.mv (.t 28))), (.op (some 9) none (.mv (.t 31)))]) (.seq (.reg [(.op (some 10) none (.mv (.c
  (.slice none 0 0))))]) (.seq (.seq (.reg [(.op (some 32) none (.mv (.t 2))), (.op (some 33) none (.mv (.c (.int .i64 0))))]) (.block 0 (.loop (.seq (.reg [(.op (some 34) none
  (.bin .lss (.t 33) (.t 32)))]) (.seq (.cond (.t 34) .skip (.exit 0)) (.seq (.block 1 (.seq (.reg [(.op (some 36) none (.mv (.t 8))), (.op (some 37) none (.mv (.t 9))),
  (.op (some 38) none (.call 64 [(.t 36), (.t 37)])), (.op (some 35) none (.mv (.t 38))), (.op (some 39) none (.xt (.t 35) 0)), (.op (some 40) none (.xt (.t 35) 1)),
  (.op (some 11) none (.mv (.t 39))), (.op (some 12) none (.mv (.t 40)))]) (.seq (.seq (.reg [(.op (some 41) none (.mv (.t 12))), (.op (some 42) none (.un .not (.t 41)))]) (.cond
  (.t 42) (.seq (.reg [(.op (some 6) none (.mv (.c (.slice none 0 0)))), (.op (some 7) none (.mv (.c (.bool false))))]) .ret) .skip)) (.reg [(.op (some 43) none (.mv (.t 10))),
  (.op (some 44) none (.mv (.t 11))), (.op (some 45) none (.bsl 5 1 [(.int .u8 0)] [(0, (1, (.t 44)))])), (.op (some 46) none (.app 5 1 1 (.t 43) (.t 45))), (.op (some 10) none
  (.mv (.t 46)))])))) (.reg [(.op (some 47) none (.bin .add (.t 33) (.c (.int .i64 1)))), (.op (some 33) none (.mv (.t 47)))]))))))) (.seq (.reg [(.op (some 48) none (.mv
  (.t 9))), (.op (some 49) none (.call 65 [(.t 48)])), (.op (some 13) none (.mv (.t 49)))]) (.seq (.seq (.reg [(.op (some 51) none (.mv (.t 9))), (.op (some 52) none (.mv
  (.t 13))), (.op (some 53) none (.mn (.t 52) [(.c (.int .i64 8))])), (.op (some 54) none (.call 66 [(.t 51), (.t 53)])), (.op (some 50) none (.mv (.t 54))), (.op (some 55) none
  (.xt (.t 50) 0)), (.op (some 56) none (.xt (.t 50) 1)), (.op (some 14) none (.mv (.t 55))), (.op (some 15) none (.mv (.t 56)))]) (.seq (.reg [(.op (some 57) none (.mv (.t 13))),
  (.op (some 58) none (.bin .gtr (.t 57) (.c (.int .i64 7)))), (.op (some 59) none (.mv (.t 58))), (.op (some 60) (some (59, false)) (.mv (.t 14))), (.op (some 61) (some (59,
  false)) (.bin .neq (.t 60) (.c (.int .u32 0)))), (.op (some 62) none (.pick (.t 59) (.c (.bool true)) (.t 61)))]) (.cond (.t 62) (.seq (.reg [(.op (some 6) none (.mv (.c
  (.slice none 0 0)))), (.op (some 7) none (.mv (.c (.bool false))))]) .ret) .skip))) (.seq (.reg [(.op (some 63) none (.mv (.t 10))), (.op (some 6) none (.mv (.t 63))),
  (.op (some 7) none (.mv (.c (.bool true))))]) .ret)))))))), [(.t 6), (.t 7)]⟩
def k24 : KFunc := ⟨88, (.seq (.reg [(.op (some 6) none (.mv (.c (.slice none 0 0)))), (.op (some 7) none (.mv (.c (.bool false))))]) (.seq (.reg [(.op (some 8) none
  (.alloc 95 [(.slice none 0 0), (.slice none 0 0), (.slice none 0 0), (.slice none 0 0), (.slice none 0 0), (.slice none 0 0), (.slice none 0 0), (.slice none 0 0),
  (.slice none 0 0), (.slice none 0 0), (.slice none 0 0), (.slice none 0 0), (.slice none 0 0), (.slice none 0 0), (.slice none 0 0), (.slice none 0 0), (.slice none 0 0),
  (.slice none 0 0), (.slice none 0 0), (.slice none 0 0), (.slice none 0 0), (.slice none 0 0), (.slice none 0 0), (.slice none 0 0), (.slice none 0 0), (.slice none 0 0),
  (.slice none 0 0), (.slice none 0 0), (.slice none 0 0), (.slice none 0 0), (.slice none 0 0), (.slice none 0 0), (.slice none 0 0), (.slice none 0 0), (.slice none 0 0),
  (.slice none 0 0), (.slice none 0 0), (.slice none 0 0), (.slice none 0 0), (.slice none 0 0), (.slice none 0 0), (.slice none 0 0), (.slice none 0 0), (.slice none 0 0),
  (.slice none 0 0), (.slice none 0 0), (.slice none 0 0), (.slice none 0 0), (.slice none 0 0), (.slice none 0 0), (.slice none 0 0), (.slice none 0 0), (.slice none 0 0),
  (.slice none 0 0), (.slice none 0 0), (.slice none 0 0), (.slice none 0 0), (.slice none 0 0), (.slice none 0 0), (.slice none 0 0), (.slice none 0 0), (.slice none 0 0),
  (.slice none 0 0), (.slice none 0 0), (.slice none 0 0), (.slice none 0 0), (.slice none 0 0), (.slice none 0 0), (.slice none 0 0), (.slice none 0 0), (.slice none 0 0),
  (.slice none 0 0), (.slice none 0 0), (.slice none 0 0), (.slice none 0 0), (.slice none 0 0), (.slice none 0 0), (.slice none 0 0), (.slice none 0 0), (.slice none 0 0),
  (.slice none 0 0), (.slice none 0 0), (.slice none 0 0), (.slice none 0 0), (.slice none 0 0), (.slice none 0 0), (.slice none 0 0), (.slice none 0 0), (.slice none 0 0),
  (.slice none 0 0), (.slice none 0 0), (.slice none 0 0), (.slice none 0 0), (.slice none 0 0), (.slice none 0 0), (.slice none 0 0), (.slice none 0 0), (.slice none 0 0),
  (.slice none 0 0), (.slice none 0 0), (.slice none 0 0), (.slice none 0 0), (.slice none 0 0), (.slice none 0 0), (.slice none 0 0), (.slice none 0 0), (.slice none 0 0),
  (.slice none 0 0), (.slice none 0 0), (.slice none 0 0), (.slice none 0 0), (.slice none 0 0), (.slice none 0 0), (.slice none 0 0), (.slice none 0 0), (.slice none 0 0),
  (.slice none 0 0), (.slice none 0 0), (.slice none 0 0), (.slice none 0 0), (.slice none 0 0), (.slice none 0 0), (.slice none 0 0), (.slice none 0 0), (.slice none 0 0),
  (.slice none 0 0), (.slice none 0 0), (.slice none 0 0), (.slice none 0 0), (.slice none 0 0), (.slice none 0 0), (.slice none 0 0), (.slice none 0 0), (.slice none 0 0),
  (.slice none 0 0), (.slice none 0 0), (.slice none 0 0), (.slice none 0 0), (.slice none 0 0), (.slice none 0 0), (.slice none 0 0), (.slice none 0 0), (.slice none 0 0),
  (.slice none 0 0), (.slice none 0 0), (.slice none 0 0), (.slice none 0 0), (.slice none 0 0), (.slice none 0 0), (.slice none 0 0), (.slice none 0 0), (.slice none 0 0),
  (.slice none 0 0), (.slice none 0 0), (.slice none 0 0), (.slice none 0 0), (.slice none 0 0), (.slice none 0 0), (.slice none 0 0), (.slice none 0 0), (.slice none 0 0),
  (.slice none 0 0), (.slice none 0 0), (.slice none 0 0), (.slice none 0 0), (.slice none 0 0), (.slice none 0 0), (.slice none 0 0), (.slice none 0 0), (.slice none 0 0),
  (.slice none 0 0), (.slice none 0 0), (.slice none 0 0), (.slice none 0 0), (.slice none 0 0), (.slice none 0 0), (.slice none 0 0), (.slice none 0 0), (.slice none 0 0),
  (.slice none 0 0), (.slice none 0 0), (.slice none 0 0), (.slice none 0 0), (.slice none 0 0), (.slice none 0 0), (.slice none 0 0), (.slice none 0 0), (.slice none 0 0),
  (.slice none 0 0), (.slice none 0 0), (.slice none 0 0), (.slice none 0 0), (.slice none 0 0), (.slice none 0 0), (.slice none 0 0), (.slice none 0 0), (.slice none 0 0),
  (.slice none 0 0), (.slice none 0 0), (.slice none 0 0), (.slice none 0 0), (.slice none 0 0), (.slice none 0 0), (.slice none 0 0), (.slice none 0 0), (.slice none 0 0),
  (.slice none 0 0), (.slice none 0 0), (.slice none 0 0), (.slice none 0 0), (.slice none 0 0), (.slice none 0 0), (.slice none 0 0), (.slice none 0 0), (.slice none 0 0),
  (.slice none 0 0), (.slice none 0 0), (.slice none 0 0), (.slice none 0 0), (.slice none 0 0), (.slice none 0 0), (.slice none 0 0), (.slice none 0 0), (.slice none 0 0),
  (.slice none 0 0), (.slice none 0 0), (.slice none 0 0), (.slice none 0 0), (.slice none 0 0), (.slice none 0 0), (.slice none 0 0), (.slice none 0 0), (.slice none 0 0),
  (.slice none 0 0), (.slice none 0 0), (.slice none 0 0), (.slice none 0 0), (.slice none 0 0), (.slice none 0 0), (.slice none 0 0), (.slice none 0 0), (.slice none 0 0),
  (.slice none 0 0), (.slice none 0 0), (.slice none 0 0), (.slice none 0 0), (.slice none 0 0), (.slice none 0 0), (.slice none 0 0), (.slice none 0 0), (.slice none 0 0),
  (.slice none 0 0), (.slice none 0 0), (.slice none 0 0), (.slice none 0 0), (.slice none 0 0)]))]) (.seq (.seq (.reg [(.op (some 9) none (.mv (.c (.int .i64 0))))]) (.block 0
  (.loop (.seq (.seq (.reg [(.op (some 16) none (.mv (.t 9))), (.op (some 17) none (.mv (.t 0))), (.op (some 18) none (.lenL (.t 17))), (.op (some 19) none (.bin .lss (.t 16)
  (.t 18)))]) (.cond (.t 19) .skip (.exit 0))) (.seq (.block 1 (.seq (.reg [(.op (some 22) none (.mv (.t 0))), (.op (some 23) none (.mv (.t 9))), (.op (some 24) none (.iad 1
  (.t 22) (.t 23))), (.op (some 25) none (.ld (.t 24))), (.op (some 26) none (.bin .gtr (.t 25) (.c (.int .i64 0))))]) (.cond (.t 26) (.reg [(.op (some 27) none (.mv (.t 9))),
  (.op (some 28) none (.mv (.t 0))), (.op (some 29) none (.mv (.t 9))), (.op (some 30) none (.call 67 [(.t 28), (.t 29)])), (.op (some 31) none (.iada 256 1 (.t 8) (.t 27))),
  (.op none none (.st (.t 31) (.t 30)))]) .skip))) (.reg [(.op (some 20) none (.mv (.t 9))), (.op (some 21) none (.bin .add (.t 20) (.c (.int .i64 1)))), (.op (some 9) none (.mv
  (.t 21)))])))))) (.seq (.reg [(.op (some 32) none (.mv (.t 1))), (.op (some 33) none (.s2b 5 (.t 32))), (.op (some 34) none (.call 68 [(.t 33)])), (.op (some 10) none (.mv
  (.t 34)))]) (.seq (.reg [(.op (some 11) none (.mv (.c (.slice none 0 0))))]) (.seq (.seq (.reg [(.op (some 12) none (.mv (.c (.int .i64 0))))]) (.block 2 (.loop (.seq (.seq
  (.reg [(.op (some 35) none (.mv (.t 12))), (.op (some 36) none (.mv (.t 2))), (.op (some 37) none (.bin .lss (.t 35) (.t 36)))]) (.cond (.t 37) .skip (.exit 2))) (.seq (.block 3
  (.seq (.reg [(.op (some 13) none (.mv (.c (.int .i64 (-1)))))]) (.seq (.seq (.reg [(.op (some 14) none (.mv (.c (.int .i64 0))))]) (.block 4 (.loop (.seq (.seq
  (.reg [(.op (some 40) none (.mv (.t 14))), (.op (some 41) none (.mv (.t 0))), (.op (some 42) none (.lenL (.t 41))), (.op (some 43) none (.bin .lss (.t 40) (.t 42)))]) (.cond
  (.t 43) .skip (.exit 4))) (.seq (.block 5 (.seq (.reg [(.op (some 46) none (.mv (.t 0))), (.op (some 47) none (.mv (.t 14))), (.op (some 48) none (.iad 1 (.t 46) (.t 47))),
  (.op (some 49) none (.ld (.t 48))), (.op (some 50) none (.bin .gtr (.t 49) (.c (.int .i64 0)))), (.op (some 51) none (.mv (.t 50))), (.op (some 52) (some (51, true)) (.mv
  (.t 10))), (.op (some 53) (some (51, true)) (.mv (.t 14))), (.op (some 54) (some (51, true)) (.iada 256 1 (.t 8) (.t 53))), (.op (some 55) (some (51, true)) (.ld (.t 54))),
  (.op (some 56) (some (51, true)) (.call 69 [(.t 52), (.t 55)])), (.op (some 57) none (.pick (.t 51) (.t 56) (.c (.bool false))))]) (.cond (.t 57) (.reg [(.op (some 58) none (.mv
  (.t 14))), (.op (some 13) none (.mv (.t 58)))]) .skip))) (.reg [(.op (some 44) none (.mv (.t 14))), (.op (some 45) none (.bin .add (.t 44) (.c (.int .i64 1)))),
  (.op (some 14) none (.mv (.t 45)))])))))) (.seq (.seq (.reg [(.op (some 59) none (.mv (.t 13))), (.op (some 60) none (.bin .lss (.t 59) (.c (.int .i64 0))))]) (.cond (.t 60)
  (.seq (.reg [(.op (some 6) none (.mv (.c (.slice none 0 0)))), (.op (some 7) none (.mv (.c (.bool false))))]) .ret) .skip)) (.seq (.reg [(.op (some 61) none (.mv (.t 11))),
  (.op (some 62) none (.mv (.t 13))), (.op (some 63) none (.cvt .u8 (.t 62))), (.op (some 64) none (.bsl 5 1 [(.int .u8 0)] [(0, (1, (.t 63)))])), (.op (some 65) none (.app 5 1 1
  (.t 61) (.t 64))), (.op (some 11) none (.mv (.t 65)))]) (.reg [(.op (some 66) none (.mv (.t 10))), (.op (some 67) none (.mv (.t 0))), (.op (some 68) none (.mv (.t 13))),
  (.op (some 69) none (.iad 1 (.t 67) (.t 68))), (.op (some 70) none (.ld (.t 69))), (.op (some 71) none (.slc 3 1 (.t 66) (some (.t 70)) none)), (.op (some 10) none (.mv
  (.t 71)))])))))) (.reg [(.op (some 38) none (.mv (.t 12))), (.op (some 39) none (.bin .add (.t 38) (.c (.int .i64 1)))), (.op (some 12) none (.mv (.t 39)))])))))) (.seq (.seq
  (.reg [(.op (some 15) none (.mv (.c (.int .i64 0))))]) (.block 6 (.loop (.seq (.seq (.reg [(.op (some 72) none (.mv (.t 15))), (.op (some 73) none (.mv (.t 10))),
  (.op (some 74) none (.lenL (.t 73))), (.op (some 75) none (.bin .lss (.t 72) (.t 74)))]) (.cond (.t 75) .skip (.exit 6))) (.seq (.block 7 (.seq (.reg [(.op (some 78) none (.mv
  (.t 10))), (.op (some 79) none (.mv (.t 15))), (.op (some 80) none (.iad 1 (.t 78) (.t 79))), (.op (some 81) none (.ld (.t 80))), (.op (some 82) none (.bin .neq (.t 81) (.c
  (.int .i64 0)))), (.op (some 83) none (.mv (.t 82))), (.op (some 84) (some (83, false)) (.mv (.t 15))), (.op (some 85) (some (83, false)) (.bin .geq (.t 84) (.c
  (.int .i64 7)))), (.op (some 86) none (.pick (.t 83) (.c (.bool true)) (.t 85)))]) (.cond (.t 86) (.seq (.reg [(.op (some 6) none (.mv (.c (.slice none 0 0)))),
  (.op (some 7) none (.mv (.c (.bool false))))]) .ret) .skip))) (.reg [(.op (some 76) none (.mv (.t 15))), (.op (some 77) none (.bin .add (.t 76) (.c (.int .i64 1)))),
  (.op (some 15) none (.mv (.t 77)))])))))) (.seq (.reg [(.op (some 87) none (.mv (.t 11))), (.op (some 6) none (.mv (.t 87))), (.op (some 7) none (.mv (.c
  (.bool true))))]) .ret)))))))), [(.t 6), (.t 7)]⟩
def k25 : KFunc := ⟨53, (.seq (.reg [(.op (some 4) none (.mv (.c (.string (bs []))))), (.op (some 5) none (.mv (.c (.bool false))))]) (.seq (.reg [(.op (some 12) none (.mv
  (.t 0))), (.op (some 13) none (.call 70 [(.t 12)])), (.op (some 11) none (.mv (.t 13))), (.op (some 14) none (.xt (.t 11) 0)), (.op (some 15) none (.xt (.t 11) 1)),
  (.op (some 6) none (.mv (.t 14))), (.op (some 7) none (.mv (.t 15)))]) (.seq (.seq (.reg [(.op (some 16) none (.mv (.t 7))), (.op (some 17) none (.un .not (.t 16)))]) (.cond
  (.t 17) (.seq (.reg [(.op (some 4) none (.mv (.c (.string (bs []))))), (.op (some 5) none (.mv (.c (.bool false))))]) .ret) .skip)) (.seq (.reg [(.op (some 8) none
  (.alloc 99 [(.slice none 0 0), (.int .i64 0)]))]) (.seq (.seq (.reg [(.op (some 18) none (.mv (.t 1))), (.op (some 19) none (.lenL (.t 18))), (.op (some 20) none (.mv (.c
  (.int .i64 0))))]) (.block 0 (.loop (.seq (.reg [(.op (some 21) none (.bin .lss (.t 20) (.t 19)))]) (.seq (.cond (.t 21) .skip (.exit 0)) (.seq (.block 1 (.seq
  (.reg [(.op (some 22) none (.iad 1 (.t 18) (.t 20))), (.op (some 23) none (.ld (.t 22))), (.op (some 10) none (.mv (.t 23)))]) (.seq (.seq (.reg [(.op (some 24) none (.mv
  (.t 10))), (.op (some 25) none (.cvt .i64 (.t 24))), (.op (some 26) none (.mv (.t 0))), (.op (some 27) none (.lenL (.t 26))), (.op (some 28) none (.bin .geq (.t 25) (.t 27))),
  (.op (some 29) none (.mv (.t 28))), (.op (some 30) (some (29, false)) (.mv (.t 0))), (.op (some 31) (some (29, false)) (.mv (.t 10))), (.op (some 32) (some (29, false)) (.iad 1
  (.t 30) (.t 31))), (.op (some 33) (some (29, false)) (.ld (.t 32))), (.op (some 34) (some (29, false)) (.bin .eql (.t 33) (.c (.int .i64 0)))), (.op (some 35) none (.pick
  (.t 29) (.c (.bool true)) (.t 34)))]) (.cond (.t 35) (.seq (.reg [(.op (some 4) none (.mv (.c (.string (bs []))))), (.op (some 5) none (.mv (.c (.bool false))))]) .ret) .skip))
  (.reg [(.op (some 36) none (.mv (.t 6))), (.op (some 37) none (.mv (.t 10))), (.op (some 38) none (.iad 1 (.t 36) (.t 37))), (.op (some 39) none (.ld (.t 38))),
  (.op (some 40) none (.mv (.t 0))), (.op (some 41) none (.mv (.t 10))), (.op (some 42) none (.iad 1 (.t 40) (.t 41))), (.op (some 43) none (.ld (.t 42))), (.op (some 45) none
  (.mv (.t 0))), (.op (some 46) none (.mv (.t 10))), (.op (some 47) none (.iad 1 (.t 45) (.t 46))), (.op (some 48) none (.ld (.t 47))), (.op (some 44) none (.call 72 [(.t 39),
  (.t 43)])), (.chk 48 none (.ld (.t 47))), (.op (some 49) none (.call 71 [(.t 8), (.t 44), (.t 48)]))])))) (.reg [(.op (some 50) none (.bin .add (.t 20) (.c (.int .i64 1)))),
  (.op (some 20) none (.mv (.t 50)))]))))))) (.seq (.reg [(.op (some 51) none (.call 73 [(.t 8)])), (.op (some 52) none (.b2s 5 (.t 51))), (.op (some 4) none (.mv (.t 52))),
  (.op (some 5) none (.mv (.c (.bool true))))]) .ret)))))), [(.t 4), (.t 5)]⟩
def k26 : KFunc := ⟨49, (.seq (.reg [(.op (some 2) none (.mv (.c (.string (bs []))))), (.op (some 3) none (.mv (.c (.bool false))))]) (.seq (.seq (.reg [(.op (some 8) none (.mv
  (.t 0))), (.op (some 9) none (.call 61 [(.t 8)])), (.op (some 10) none (.un .not (.t 9)))]) (.cond (.t 10) (.seq (.reg [(.op (some 2) none (.mv (.c (.string (bs []))))),
  (.op (some 3) none (.mv (.c (.bool false))))]) .ret) .skip)) (.seq (.reg [(.op (some 11) none (.mv (.t 0))), (.op (some 12) none (.call 74 [(.t 11)])), (.op (some 4) none (.mv
  (.t 12)))]) (.seq (.reg [(.op (some 13) none (.mv (.t 4))), (.op (some 14) none (.lenL (.t 13))), (.op (some 15) none (.bin .sub (.t 14) (.c (.int .i64 1)))),
  (.op (some 16) none (.cvt .u8 (.t 15))), (.op (some 17) none (.bsl 5 1 [(.int .u8 0)] [(0, (1, (.t 16)))])), (.op (some 5) none (.mv (.t 17)))]) (.seq (.seq
  (.reg [(.op (some 6) none (.mv (.c (.int .i64 0))))]) (.block 0 (.loop (.seq (.seq (.reg [(.op (some 18) none (.mv (.t 6))), (.op (some 19) none (.mv (.t 4))),
  (.op (some 20) none (.lenL (.t 19))), (.op (some 21) none (.bin .lss (.t 18) (.t 20)))]) (.cond (.t 21) .skip (.exit 0))) (.seq (.block 1 (.seq (.reg [(.op (some 24) none (.mv
  (.t 4))), (.op (some 25) none (.mv (.t 6))), (.op (some 26) none (.iad 1 (.t 24) (.t 25))), (.op (some 27) none (.ld (.t 26))), (.op (some 28) none (.cvt .u8 (.t 27))),
  (.op (some 7) none (.mv (.t 28)))]) (.seq (.seq (.reg [(.op (some 29) none (.mv (.t 6))), (.op (some 30) none (.bin .add (.t 29) (.c (.int .i64 1)))), (.op (some 31) none (.mv
  (.t 4))), (.op (some 32) none (.lenL (.t 31))), (.op (some 33) none (.bin .lss (.t 30) (.t 32)))]) (.cond (.t 33) (.reg [(.op (some 34) none (.mv (.t 7))), (.op (some 35) none
  (.mv (.t 4))), (.op (some 36) none (.mv (.t 6))), (.op (some 37) none (.bin .add (.t 36) (.c (.int .i64 1)))), (.op (some 38) none (.iad 1 (.t 35) (.t 37))), (.op (some 39) none
  (.ld (.t 38))), (.op (some 40) none (.cvt .u8 (.t 39))), (.op (some 41) none (.bin .shl (.t 40) (.c (.int .u64 4)))), (.op (some 42) none (.bin .or (.t 34) (.t 41))),
  (.op (some 7) none (.mv (.t 42)))]) .skip)) (.reg [(.op (some 43) none (.mv (.t 5))), (.op (some 44) none (.mv (.t 7))), (.op (some 45) none (.bsl 5 1 [(.int .u8 0)] [(0, (1,
  (.t 44)))])), (.op (some 46) none (.app 5 1 1 (.t 43) (.t 45))), (.op (some 5) none (.mv (.t 46)))])))) (.reg [(.op (some 22) none (.mv (.t 6))), (.op (some 23) none (.bin .add
  (.t 22) (.c (.int .i64 2)))), (.op (some 6) none (.mv (.t 23)))])))))) (.seq (.reg [(.op (some 47) none (.mv (.t 5))), (.op (some 48) none (.b2s 5 (.t 47))), (.op (some 2) none
  (.mv (.t 48))), (.op (some 3) none (.mv (.c (.bool true))))]) .ret)))))), [(.t 2), (.t 3)]⟩
def k45 : KFunc := ⟨28, (.seq (.reg [(.op (some 2) none (.mv (.c (.slice none 0 0))))]) (.seq (.reg [(.op (some 3) none (.mv (.c (.slice none 0 0))))]) (.seq (.seq
  (.reg [(.op (some 6) none (.mv (.t 0))), (.op (some 7) none (.lenL (.t 6))), (.op (some 8) none (.mv (.c (.int .i64 0))))]) (.block 0 (.loop (.seq (.reg [(.op (some 9) none
  (.bin .lss (.t 8) (.t 7)))]) (.seq (.cond (.t 9) .skip (.exit 0)) (.seq (.block 1 (.seq (.reg [(.op (some 10) none (.iad 1 (.t 6) (.t 8))), (.op (some 11) none (.ld (.t 10))),
  (.op (some 5) none (.mv (.t 11)))]) (.seq (.block 2 (.loop (.seq (.seq (.reg [(.op (some 12) none (.mv (.t 3))), (.op (some 13) none (.lenL (.t 12))), (.op (some 14) none (.mv
  (.t 5))), (.op (some 15) none (.cvt .i64 (.t 14))), (.op (some 16) none (.bin .leq (.t 13) (.t 15)))]) (.cond (.t 16) .skip (.exit 2))) (.block 3 (.reg [(.op (some 17) none (.mv
  (.t 3))), (.op (some 18) none (.bsl 3 1 [(.int .i64 0)] [(0, (1, (.c (.int .i64 0))))])), (.op (some 19) none (.app 3 1 8 (.t 17) (.t 18))), (.op (some 3) none (.mv
  (.t 19)))]))))) (.reg [(.op (some 20) none (.mv (.t 3))), (.op (some 21) none (.mv (.t 5))), (.op (some 22) none (.iad 1 (.t 20) (.t 21))), (.op (some 23) none (.ld (.t 22))),
  (.op (some 24) none (.bin .add (.t 23) (.c (.int .i64 1)))), (.op (some 25) none (.iad 1 (.t 20) (.t 21))), (.op none none (.st (.t 25) (.t 24)))])))) (.reg [(.op (some 26) none
  (.bin .add (.t 8) (.c (.int .i64 1)))), (.op (some 8) none (.mv (.t 26)))]))))))) (.seq (.reg [(.op (some 27) none (.mv (.t 3))), (.op (some 2) none (.mv (.t 27)))]) .ret)))),
  [(.t 2)]⟩
def k59 : KFunc := ⟨25, (.seq (.reg [(.op (some 2) none (.mv (.c (.bool false))))]) (.seq (.seq (.reg [(.op (some 3) none (.mv (.c (.int .i64 0))))]) (.block 0 (.loop (.seq (.seq
  (.reg [(.op (some 4) none (.mv (.t 3))), (.op (some 5) none (.mv (.t 0))), (.op (some 6) none (.lenL (.t 5))), (.op (some 7) none (.bin .lss (.t 4) (.t 6)))]) (.cond
  (.t 7) .skip (.exit 0))) (.seq (.block 1 (.seq (.reg [(.op (some 10) none (.mv (.t 0))), (.op (some 11) none (.mv (.t 3))), (.op (some 12) none (.iad 1 (.t 10) (.t 11))),
  (.op (some 13) none (.ld (.t 12))), (.op (some 14) none (.bin .lss (.t 13) (.c (.int .i64 0)))), (.op (some 15) none (.mv (.t 14))), (.op (some 16) (some (15, false)) (.mv
  (.t 0))), (.op (some 17) (some (15, false)) (.mv (.t 3))), (.op (some 18) (some (15, false)) (.iad 1 (.t 16) (.t 17))), (.op (some 19) (some (15, false)) (.ld (.t 18))),
  (.op (some 20) (some (15, false)) (.bin .gtr (.t 19) (.c (.int .i64 11)))), (.op (some 21) none (.pick (.t 15) (.c (.bool true)) (.t 20)))]) (.cond (.t 21) (.seq
  (.reg [(.op (some 2) none (.mv (.c (.bool false))))]) .ret) .skip))) (.reg [(.op (some 8) none (.mv (.t 3))), (.op (some 9) none (.bin .add (.t 8) (.c (.int .i64 1)))),
  (.op (some 3) none (.mv (.t 9)))])))))) (.seq (.reg [(.op (some 22) none (.mv (.t 0))), (.op (some 23) none (.lenL (.t 22))), (.op (some 24) none (.bin .leq (.t 23) (.c
  (.int .i64 256)))), (.op (some 2) none (.mv (.t 24)))]) .ret))), [(.t 2)]⟩
def k60 : KFunc := ⟨13, (.seq (.reg [(.op (some 2) none (.mv (.c (.int .i64 0))))]) (.seq (.reg [(.op (some 3) none (.mv (.c (.int .i64 1))))]) (.seq (.seq
  (.reg [(.op (some 4) none (.mv (.c (.int .i64 0))))]) (.block 0 (.loop (.seq (.seq (.reg [(.op (some 5) none (.mv (.t 4))), (.op (some 6) none (.mv (.t 0))), (.op (some 7) none
  (.bin .lss (.t 5) (.t 6)))]) (.cond (.t 7) .skip (.exit 0))) (.seq (.block 1 (.reg [(.op (some 10) none (.mv (.t 3))), (.op (some 11) none (.bin .mul (.t 10) (.c
  (.int .i64 2)))), (.op (some 3) none (.mv (.t 11)))])) (.reg [(.op (some 8) none (.mv (.t 4))), (.op (some 9) none (.bin .add (.t 8) (.c (.int .i64 1)))), (.op (some 4) none
  (.mv (.t 9)))])))))) (.seq (.reg [(.op (some 12) none (.mv (.t 3))), (.op (some 2) none (.mv (.t 12)))]) .ret)))), [(.t 2)]⟩
def k61 : KFunc := ⟨38, (.seq (.reg [(.op (some 2) none (.mv (.c (.bool false))))]) (.seq (.seq (.reg [(.op (some 8) none (.mv (.t 0))), (.op (some 9) none (.call 92 [(.t 8)])),
  (.op (some 10) none (.un .not (.t 9)))]) (.cond (.t 10) (.seq (.reg [(.op (some 2) none (.mv (.c (.bool false))))]) .ret) .skip)) (.seq (.reg [(.op (some 3) none (.mv (.c
  (.int .i64 2048)))), (.op (some 4) none (.mv (.c (.int .i64 0)))), (.op (some 5) none (.mv (.c (.bool false))))]) (.seq (.seq (.reg [(.op (some 11) none (.mv (.t 0))),
  (.op (some 12) none (.lenL (.t 11))), (.op (some 13) none (.mv (.c (.int .i64 0))))]) (.block 0 (.loop (.seq (.reg [(.op (some 14) none (.bin .lss (.t 13) (.t 12)))]) (.seq
  (.cond (.t 14) .skip (.exit 0)) (.seq (.block 1 (.seq (.reg [(.op (some 15) none (.iad 1 (.t 11) (.t 13))), (.op (some 16) none (.ld (.t 15))), (.op (some 7) none (.mv
  (.t 16)))]) (.seq (.reg [(.op (some 17) none (.mv (.t 7))), (.op (some 18) none (.bin .gtr (.t 17) (.c (.int .i64 0))))]) (.cond (.t 18) (.seq (.reg [(.op (some 19) none (.mv
  (.t 3))), (.op (some 20) none (.mv (.t 7))), (.op (some 21) none (.bin .sub (.c (.int .i64 11)) (.t 20))), (.op (some 22) none (.bin .shl (.c (.int .i64 1)) (.t 21))),
  (.op (some 23) none (.bin .sub (.t 19) (.t 22))), (.op (some 3) none (.mv (.t 23)))]) (.seq (.reg [(.op (some 24) none (.mv (.t 4))), (.op (some 25) none (.bin .add (.t 24) (.c
  (.int .i64 1)))), (.op (some 4) none (.mv (.t 25)))]) (.reg [(.op (some 26) none (.mv (.t 7))), (.op (some 27) none (.bin .eql (.t 26) (.c (.int .i64 1)))), (.op (some 5) none
  (.mv (.t 27)))]))) .skip)))) (.reg [(.op (some 28) none (.bin .add (.t 13) (.c (.int .i64 1)))), (.op (some 13) none (.mv (.t 28)))]))))))) (.seq (.reg [(.op (some 29) none (.mv
  (.t 3))), (.op (some 30) none (.bin .eql (.t 29) (.c (.int .i64 0)))), (.op (some 31) none (.mv (.t 30))), (.op (some 32) (some (31, false)) (.mv (.t 4))),
  (.op (some 33) (some (31, false)) (.bin .eql (.t 32) (.c (.int .i64 1)))), (.op (some 34) (some (31, false)) (.mv (.t 33))), (.op (some 35) (some (34, true)) (.mv (.t 5))),
  (.op (some 36) (some (31, false)) (.pick (.t 34) (.t 35) (.c (.bool false)))), (.op (some 37) none (.pick (.t 31) (.c (.bool true)) (.t 36))), (.op (some 2) none (.mv
  (.t 37)))]) .ret))))), [(.t 2)]⟩
def k62 : KFunc := ⟨72, (.seq (.reg [(.op (some 2) none (.mv (.c (.pointer none))))]) (.seq (.reg [(.op (some 8) none (.build [(.int .i64 0), (.int .i64 0), (.int .i64 0),
  (.int .i64 0), (.int .i64 0), (.int .i64 0), (.int .i64 0), (.int .i64 0), (.int .i64 0), (.int .i64 0), (.int .i64 0), (.int .i64 0), (.int .i64 0), (.int .i64 0),
  (.int .i64 0), (.int .i64 0), (.int .i64 0), (.int .i64 0), (.int .i64 0), (.int .i64 0), (.int .i64 0), (.int .i64 0), (.int .i64 0), (.int .i64 0), (.int .i64 0),
  (.int .i64 0), (.int .i64 0), (.int .i64 0), (.int .i64 0), (.int .i64 0), (.int .i64 0), (.int .i64 0), (.int .i64 0), (.int .i64 0), (.int .i64 0), (.int .i64 0),
  (.int .i64 0), (.int .i64 0), (.int .i64 0), (.slice none 0 0)] [])), (.op (some 9) none (.box 137 (.t 8))), (.op (some 3) none (.mv (.t 9)))]) (.seq (.reg [(.op (some 4) none
  (.mv (.c (.int .i64 0))))]) (.seq (.seq (.reg [(.op (some 5) none (.mv (.c (.int .i64 1))))]) (.block 0 (.loop (.seq (.seq (.reg [(.op (some 10) none (.mv (.t 5))),
  (.op (some 11) none (.bin .leq (.t 10) (.c (.int .i64 11))))]) (.cond (.t 11) .skip (.exit 0))) (.seq (.block 1 (.seq (.reg [(.op (some 14) none (.mv (.t 3))),
  (.op (some 15) none (.mv (.t 5))), (.op (some 16) none (.mv (.t 3))), (.op (some 17) none (.mv (.t 5))), (.op (some 18) none (.mv (.t 4))), (.op (some 19) none (.mv (.t 3))),
  (.op (some 20) none (.nck (.t 19))), (.op (some 21) none (.fad 39 (.t 20))), (.op (some 22) none (.ld (.t 21))), (.op (some 23) none (.lenL (.t 22))), (.op (some 24) none (.nck
  (.t 14))), (.op (some 25) none (.fad 0 (.t 24))), (.op (some 26) none (.iada 13 1 (.t 25) (.t 15))), (.op (some 27) none (.nck (.t 16))), (.op (some 28) none (.fad 26 (.t 27))),
  (.op none none (.st (.t 26) (.t 18))), (.op (some 29) none (.iada 13 1 (.t 28) (.t 17))), (.op none none (.st (.t 29) (.t 23)))]) (.seq (.seq (.reg [(.op (some 30) none (.mv
  (.t 0))), (.op (some 31) none (.lenL (.t 30))), (.op (some 32) none (.mv (.c (.int .i64 0))))]) (.block 2 (.loop (.seq (.reg [(.op (some 33) none (.bin .lss (.t 32) (.t 31)))])
  (.seq (.cond (.t 33) .skip (.exit 2)) (.seq (.block 3 (.seq (.reg [(.op (some 34) none (.mv (.t 32))), (.op (some 35) none (.iad 1 (.t 30) (.t 32))), (.op (some 36) none (.ld
  (.t 35))), (.op (some 6) none (.mv (.t 34))), (.op (some 7) none (.mv (.t 36)))]) (.seq (.reg [(.op (some 37) none (.mv (.t 7))), (.op (some 38) none (.mv (.t 5))),
  (.op (some 39) none (.bin .eql (.t 37) (.t 38)))]) (.cond (.t 39) (.seq (.reg [(.op (some 40) none (.mv (.t 3))), (.op (some 41) none (.mv (.t 3))), (.op (some 42) none (.nck
  (.t 41))), (.op (some 43) none (.fad 39 (.t 42))), (.op (some 44) none (.ld (.t 43))), (.op (some 45) none (.mv (.t 6))), (.op (some 46) none (.cvt .u8 (.t 45))),
  (.op (some 47) none (.bsl 5 1 [(.int .u8 0)] [(0, (1, (.t 46)))])), (.op (some 48) none (.app 5 1 1 (.t 44) (.t 47))), (.op (some 49) none (.nck (.t 40))), (.op (some 50) none
  (.fad 39 (.t 49))), (.op none none (.st (.t 50) (.t 48)))]) (.reg [(.op (some 51) none (.mv (.t 3))), (.op (some 52) none (.mv (.t 5))), (.op (some 53) none (.nck (.t 51))),
  (.op (some 54) none (.fad 13 (.t 53))), (.op (some 55) none (.iada 13 1 (.t 54) (.t 52))), (.op (some 56) none (.ld (.t 55))), (.op (some 57) none (.bin .add (.t 56) (.c
  (.int .i64 1)))), (.op (some 58) none (.nck (.t 51))), (.op (some 59) none (.fad 13 (.t 58))), (.op (some 60) none (.iada 13 1 (.t 59) (.t 52))), (.op none none (.st (.t 60)
  (.t 57)))])) .skip)))) (.reg [(.op (some 61) none (.bin .add (.t 32) (.c (.int .i64 1)))), (.op (some 32) none (.mv (.t 61)))]))))))) (.reg [(.op (some 62) none (.mv (.t 4))),
  (.op (some 63) none (.mv (.t 3))), (.op (some 64) none (.mv (.t 5))), (.op (some 65) none (.nck (.t 63))), (.op (some 66) none (.fad 13 (.t 65))), (.op (some 67) none
  (.iada 13 1 (.t 66) (.t 64))), (.op (some 68) none (.ld (.t 67))), (.op (some 69) none (.bin .add (.t 62) (.t 68))), (.op (some 70) none (.bin .shl (.t 69) (.c (.int .u64 1)))),
  (.op (some 4) none (.mv (.t 70)))])))) (.reg [(.op (some 12) none (.mv (.t 5))), (.op (some 13) none (.bin .add (.t 12) (.c (.int .i64 1)))), (.op (some 5) none (.mv
  (.t 13)))])))))) (.seq (.reg [(.op (some 71) none (.mv (.t 3))), (.op (some 2) none (.mv (.t 71)))]) .ret))))), [(.t 2)]⟩
def k63 : KFunc := ⟨7, (.seq (.reg [(.op (some 2) none (.mv (.c (.pointer none))))]) (.seq (.reg [(.op (some 3) none (.mv (.t 0))), (.op (some 4) none (.app 5 1 1 (.c
  (.slice none 0 0)) (.t 3))), (.op (some 5) none (.build [(.slice none 0 0), (.int .i64 0)] [(0, (1, (.t 4)))])), (.op (some 6) none (.box 139 (.t 5))), (.op (some 2) none (.mv
  (.t 6)))]) .ret)), [(.t 2)]⟩
def k64 : KFunc := ⟨61, (.seq (.reg [(.op (some 4) none (.mv (.c (.int .u8 0)))), (.op (some 5) none (.mv (.c (.bool false))))]) (.seq (.reg [(.op (some 6) none (.mv (.c
  (.int .i64 0))))]) (.seq (.seq (.reg [(.op (some 7) none (.mv (.c (.int .i64 1))))]) (.block 0 (.loop (.seq (.seq (.reg [(.op (some 11) none (.mv (.t 7))), (.op (some 12) none
  (.bin .leq (.t 11) (.c (.int .i64 11))))]) (.cond (.t 12) .skip (.exit 0))) (.seq (.block 1 (.seq (.reg [(.op (some 16) none (.mv (.t 1))), (.op (some 17) none
  (.call 66 [(.t 16), (.c (.int .i64 1))])), (.op (some 15) none (.mv (.t 17))), (.op (some 18) none (.xt (.t 15) 0)), (.op (some 19) none (.xt (.t 15) 1)), (.op (some 8) none
  (.mv (.t 18))), (.op (some 9) none (.mv (.t 19)))]) (.seq (.seq (.reg [(.op (some 20) none (.mv (.t 9))), (.op (some 21) none (.un .not (.t 20)))]) (.cond (.t 21) (.seq
  (.reg [(.op (some 4) none (.mv (.c (.int .u8 0)))), (.op (some 5) none (.mv (.c (.bool false))))]) .ret) .skip)) (.seq (.reg [(.op (some 22) none (.mv (.t 6))),
  (.op (some 23) none (.bin .shl (.t 22) (.c (.int .u64 1)))), (.op (some 24) none (.mv (.t 8))), (.op (some 25) none (.cvt .i64 (.t 24))), (.op (some 26) none (.bin .or (.t 23)
  (.t 25))), (.op (some 6) none (.mv (.t 26)))]) (.seq (.reg [(.op (some 27) none (.mv (.t 6))), (.op (some 28) none (.mv (.t 0))), (.op (some 29) none (.mv (.t 7))),
  (.op (some 30) none (.nck (.t 28))), (.op (some 31) none (.fad 0 (.t 30))), (.op (some 32) none (.iada 13 1 (.t 31) (.t 29))), (.op (some 33) none (.ld (.t 32))),
  (.op (some 34) none (.bin .sub (.t 27) (.t 33))), (.op (some 10) none (.mv (.t 34)))]) (.seq (.reg [(.op (some 35) none (.mv (.t 10))), (.op (some 36) none (.bin .geq (.t 35)
  (.c (.int .i64 0)))), (.op (some 37) none (.mv (.t 36))), (.op (some 38) (some (37, true)) (.mv (.t 10))), (.op (some 39) (some (37, true)) (.mv (.t 0))),
  (.op (some 40) (some (37, true)) (.mv (.t 7))), (.op (some 41) (some (37, true)) (.nck (.t 39))), (.op (some 42) (some (37, true)) (.fad 13 (.t 41))), (.op (some 43) (some (37,
  true)) (.iada 13 1 (.t 42) (.t 40))), (.op (some 44) (some (37, true)) (.ld (.t 43))), (.op (some 45) (some (37, true)) (.bin .lss (.t 38) (.t 44))), (.op (some 46) none (.pick
  (.t 37) (.t 45) (.c (.bool false))))]) (.cond (.t 46) (.seq (.reg [(.op (some 47) none (.mv (.t 0))), (.op (some 48) none (.nck (.t 47))), (.op (some 49) none (.fad 39
  (.t 48))), (.op (some 50) none (.ld (.t 49))), (.op (some 51) none (.mv (.t 0))), (.op (some 52) none (.mv (.t 7))), (.op (some 53) none (.nck (.t 51))), (.op (some 54) none
  (.fad 26 (.t 53))), (.op (some 55) none (.iada 13 1 (.t 54) (.t 52))), (.op (some 56) none (.ld (.t 55))), (.op (some 57) none (.mv (.t 10))), (.op (some 58) none (.bin .add
  (.t 56) (.t 57))), (.op (some 59) none (.iad 1 (.t 50) (.t 58))), (.op (some 60) none (.ld (.t 59))), (.op (some 4) none (.mv (.t 60))), (.op (some 5) none (.mv (.c
  (.bool true))))]) .ret) .skip))))))) (.reg [(.op (some 13) none (.mv (.t 7))), (.op (some 14) none (.bin .add (.t 13) (.c (.int .i64 1)))), (.op (some 7) none (.mv
  (.t 14)))])))))) (.seq (.reg [(.op (some 4) none (.mv (.c (.int .u8 0)))), (.op (some 5) none (.mv (.c (.bool false))))]) .ret)))), [(.t 4), (.t 5)]⟩
def k65 : KFunc := ⟨16, (.seq (.reg [(.op (some 2) none (.mv (.c (.int .i64 0))))]) (.seq (.seq (.reg [(.op (some 3) none (.mv (.t 0))), (.op (some 4) none (.eqv .ptr false (.t 3)
  (.c (.pointer none))))]) (.cond (.t 4) (.seq (.reg [(.op (some 2) none (.mv (.c (.int .i64 0))))]) .ret) .skip)) (.seq (.reg [(.op (some 5) none (.mv (.t 0))),
  (.op (some 6) none (.nck (.t 5))), (.op (some 7) none (.fad 0 (.t 6))), (.op (some 8) none (.ld (.t 7))), (.op (some 9) none (.lenL (.t 8))), (.op (some 10) none (.bin .mul (.c
  (.int .i64 8)) (.t 9))), (.op (some 11) none (.mv (.t 0))), (.op (some 12) none (.nck (.t 11))), (.op (some 13) none (.fad 1 (.t 12))), (.op (some 14) none (.ld (.t 13))),
  (.op (some 15) none (.bin .sub (.t 10) (.t 14))), (.op (some 2) none (.mv (.t 15)))]) .ret))), [(.t 2)]⟩
def k66 : KFunc := ⟨73, (.seq (.reg [(.op (some 4) none (.mv (.c (.int .u32 0)))), (.op (some 5) none (.mv (.c (.bool false))))]) (.seq (.seq (.reg [(.op (some 11) none (.mv
  (.t 0))), (.op (some 12) none (.eqv .ptr false (.t 11) (.c (.pointer none)))), (.op (some 13) none (.mv (.t 12))), (.op (some 14) (some (13, false)) (.mv (.t 1))),
  (.op (some 15) (some (13, false)) (.call 107 [(.t 14)])), (.op (some 16) (some (13, false)) (.un .not (.t 15))), (.op (some 17) none (.pick (.t 13) (.c (.bool true)) (.t 16))),
  (.op (some 18) none (.mv (.t 17))), (.op (some 19) (some (18, false)) (.mv (.t 1))), (.op (some 20) (some (18, false)) (.mv (.t 0))), (.op (some 21) (some (18, false))
  (.call 65 [(.t 20)])), (.op (some 22) (some (18, false)) (.bin .gtr (.t 19) (.t 21))), (.op (some 23) none (.pick (.t 18) (.c (.bool true)) (.t 22)))]) (.cond (.t 23) (.seq
  (.reg [(.op (some 4) none (.mv (.c (.int .u32 0)))), (.op (some 5) none (.mv (.c (.bool false))))]) .ret) .skip)) (.seq (.reg [(.op (some 6) none (.mv (.c (.int .u32 0))))])
  (.seq (.seq (.reg [(.op (some 7) none (.mv (.c (.int .i64 0))))]) (.block 0 (.loop (.seq (.seq (.reg [(.op (some 24) none (.mv (.t 7))), (.op (some 25) none (.mv (.t 1))),
  (.op (some 26) none (.bin .lss (.t 24) (.t 25)))]) (.cond (.t 26) .skip (.exit 0))) (.block 1 (.seq (.reg [(.op (some 27) none (.mv (.t 0))), (.op (some 28) none (.nck
  (.t 27))), (.op (some 29) none (.fad 1 (.t 28))), (.op (some 30) none (.ld (.t 29))), (.op (some 31) none (.bin .and (.t 30) (.c (.int .i64 7)))), (.op (some 8) none (.mv
  (.t 31)))]) (.seq (.reg [(.op (some 32) none (.mv (.t 1))), (.op (some 33) none (.mv (.t 7))), (.op (some 34) none (.bin .sub (.t 32) (.t 33))), (.op (some 35) none (.mv
  (.t 8))), (.op (some 36) none (.bin .sub (.c (.int .i64 8)) (.t 35))), (.op (some 37) none (.mn (.t 34) [(.t 36)])), (.op (some 9) none (.mv (.t 37)))]) (.seq
  (.reg [(.op (some 38) none (.mv (.t 0))), (.op (some 39) none (.nck (.t 38))), (.op (some 40) none (.fad 0 (.t 39))), (.op (some 41) none (.ld (.t 40))), (.op (some 42) none
  (.mv (.t 0))), (.op (some 43) none (.nck (.t 42))), (.op (some 44) none (.fad 1 (.t 43))), (.op (some 45) none (.ld (.t 44))), (.op (some 46) none (.bin .shr (.t 45) (.c
  (.int .u64 3)))), (.op (some 47) none (.iad 1 (.t 41) (.t 46))), (.op (some 48) none (.ld (.t 47))), (.op (some 49) none (.mv (.t 8))), (.op (some 50) none (.bin .shr (.t 48)
  (.t 49))), (.op (some 51) none (.cvt .u32 (.t 50))), (.op (some 52) none (.mv (.t 9))), (.op (some 53) none (.bin .shl (.c (.int .u32 1)) (.t 52))), (.op (some 54) none
  (.bin .sub (.t 53) (.c (.int .u32 1)))), (.op (some 55) none (.bin .and (.t 51) (.t 54))), (.op (some 10) none (.mv (.t 55)))]) (.seq (.reg [(.op (some 56) none (.mv (.t 6))),
  (.op (some 57) none (.mv (.t 10))), (.op (some 58) none (.mv (.t 7))), (.op (some 59) none (.bin .shl (.t 57) (.t 58))), (.op (some 60) none (.bin .or (.t 56) (.t 59))),
  (.op (some 6) none (.mv (.t 60)))]) (.seq (.reg [(.op (some 61) none (.mv (.t 7))), (.op (some 62) none (.mv (.t 9))), (.op (some 63) none (.bin .add (.t 61) (.t 62))),
  (.op (some 7) none (.mv (.t 63)))]) (.reg [(.op (some 64) none (.mv (.t 0))), (.op (some 65) none (.nck (.t 64))), (.op (some 66) none (.fad 1 (.t 65))), (.op (some 67) none
  (.ld (.t 66))), (.op (some 68) none (.mv (.t 9))), (.op (some 69) none (.bin .add (.t 67) (.t 68))), (.op (some 70) none (.nck (.t 64))), (.op (some 71) none (.fad 1 (.t 70))),
  (.op none none (.st (.t 71) (.t 69)))]))))))))))) (.seq (.reg [(.op (some 72) none (.mv (.t 6))), (.op (some 4) none (.mv (.t 72))), (.op (some 5) none (.mv (.c
  (.bool true))))]) .ret))))), [(.t 4), (.t 5)]⟩
def k67 : KFunc := ⟨31, (.seq (.reg [(.op (some 4) none (.mv (.c (.slice none 0 0))))]) (.seq (.reg [(.op (some 5) none (.mv (.c (.slice none 0 0))))]) (.seq
  (.reg [(.op (some 8) none (.mv (.t 0))), (.op (some 9) none (.call 108 [(.t 8)])), (.op (some 10) none (.mv (.t 1))), (.op (some 11) none (.iad 1 (.t 9) (.t 10))),
  (.op (some 12) none (.ld (.t 11))), (.op (some 6) none (.mv (.t 12)))]) (.seq (.seq (.reg [(.op (some 13) none (.mv (.t 0))), (.op (some 14) none (.mv (.t 1))),
  (.op (some 15) none (.iad 1 (.t 13) (.t 14))), (.op (some 16) none (.ld (.t 15))), (.op (some 17) none (.bin .sub (.t 16) (.c (.int .i64 1)))), (.op (some 7) none (.mv
  (.t 17)))]) (.block 0 (.loop (.seq (.seq (.reg [(.op (some 18) none (.mv (.t 7))), (.op (some 19) none (.bin .geq (.t 18) (.c (.int .i64 0))))]) (.cond (.t 19) .skip (.exit 0)))
  (.seq (.block 1 (.reg [(.op (some 22) none (.mv (.t 5))), (.op (some 23) none (.mv (.t 6))), (.op (some 24) none (.mv (.t 7))), (.op (some 25) none (.call 60 [(.t 24)])),
  (.op (some 26) none (.bin .quo (.t 23) (.t 25))), (.op (some 27) none (.bin .rem (.t 26) (.c (.int .i64 2)))), (.op (some 28) none (.bsl 3 1 [(.int .i64 0)] [(0, (1,
  (.t 27)))])), (.op (some 29) none (.app 3 1 8 (.t 22) (.t 28))), (.op (some 5) none (.mv (.t 29)))])) (.reg [(.op (some 20) none (.mv (.t 7))), (.op (some 21) none (.bin .sub
  (.t 20) (.c (.int .i64 1)))), (.op (some 7) none (.mv (.t 21)))])))))) (.seq (.reg [(.op (some 30) none (.mv (.t 5))), (.op (some 4) none (.mv (.t 30)))]) .ret))))), [(.t 4)]⟩
def k68 : KFunc := ⟨20, (.seq (.reg [(.op (some 2) none (.mv (.c (.slice none 0 0))))]) (.seq (.reg [(.op (some 3) none (.mv (.c (.slice none 0 0))))]) (.seq (.seq
  (.reg [(.op (some 4) none (.mv (.c (.int .i64 0))))]) (.block 0 (.loop (.seq (.seq (.reg [(.op (some 5) none (.mv (.t 4))), (.op (some 6) none (.mv (.t 0))), (.op (some 7) none
  (.lenL (.t 6))), (.op (some 8) none (.bin .lss (.t 5) (.t 7)))]) (.cond (.t 8) .skip (.exit 0))) (.seq (.block 1 (.reg [(.op (some 11) none (.mv (.t 3))), (.op (some 12) none
  (.mv (.t 0))), (.op (some 13) none (.mv (.t 4))), (.op (some 14) none (.iad 1 (.t 12) (.t 13))), (.op (some 15) none (.ld (.t 14))), (.op (some 16) none (.cvt .u32 (.t 15))),
  (.op (some 17) none (.call 109 [(.t 16), (.c (.int .i64 8))])), (.op (some 18) none (.app 3 1 8 (.t 11) (.t 17))), (.op (some 3) none (.mv (.t 18)))])) (.reg [(.op (some 9) none
  (.mv (.t 4))), (.op (some 10) none (.bin .add (.t 9) (.c (.int .i64 1)))), (.op (some 4) none (.mv (.t 10)))])))))) (.seq (.reg [(.op (some 19) none (.mv (.t 3))),
  (.op (some 2) none (.mv (.t 19)))]) .ret)))), [(.t 2)]⟩
def k69 : KFunc := ⟨26, (.seq (.reg [(.op (some 4) none (.mv (.c (.bool false))))]) (.seq (.seq (.reg [(.op (some 6) none (.mv (.t 0))), (.op (some 7) none (.lenL (.t 6))),
  (.op (some 8) none (.mv (.t 1))), (.op (some 9) none (.lenL (.t 8))), (.op (some 10) none (.bin .lss (.t 7) (.t 9)))]) (.cond (.t 10) (.seq (.reg [(.op (some 4) none (.mv (.c
  (.bool false))))]) .ret) .skip)) (.seq (.seq (.reg [(.op (some 5) none (.mv (.c (.int .i64 0))))]) (.block 0 (.loop (.seq (.seq (.reg [(.op (some 11) none (.mv (.t 5))),
  (.op (some 12) none (.mv (.t 1))), (.op (some 13) none (.lenL (.t 12))), (.op (some 14) none (.bin .lss (.t 11) (.t 13)))]) (.cond (.t 14) .skip (.exit 0))) (.seq (.block 1
  (.seq (.reg [(.op (some 17) none (.mv (.t 0))), (.op (some 18) none (.mv (.t 5))), (.op (some 19) none (.iad 1 (.t 17) (.t 18))), (.op (some 20) none (.ld (.t 19))),
  (.op (some 21) none (.mv (.t 1))), (.op (some 22) none (.mv (.t 5))), (.op (some 23) none (.iad 1 (.t 21) (.t 22))), (.op (some 24) none (.ld (.t 23))), (.op (some 25) none
  (.bin .neq (.t 20) (.t 24)))]) (.cond (.t 25) (.seq (.reg [(.op (some 4) none (.mv (.c (.bool false))))]) .ret) .skip))) (.reg [(.op (some 15) none (.mv (.t 5))),
  (.op (some 16) none (.bin .add (.t 15) (.c (.int .i64 1)))), (.op (some 5) none (.mv (.t 16)))])))))) (.seq (.reg [(.op (some 4) none (.mv (.c (.bool true))))]) .ret)))),
  [(.t 4)]⟩
def k70 : KFunc := ⟨39, (.seq (.reg [(.op (some 2) none (.mv (.c (.slice none 0 0)))), (.op (some 3) none (.mv (.c (.bool false))))]) (.seq (.seq (.reg [(.op (some 9) none (.mv
  (.t 0))), (.op (some 10) none (.call 61 [(.t 9)])), (.op (some 11) none (.un .not (.t 10)))]) (.cond (.t 11) (.seq (.reg [(.op (some 2) none (.mv (.c (.slice none 0 0)))),
  (.op (some 3) none (.mv (.c (.bool false))))]) .ret) .skip)) (.seq (.reg [(.op (some 12) none (.mv (.t 0))), (.op (some 13) none (.lenL (.t 12))), (.op (some 14) none
  (.mks 3 [(.int .i64 0)] 8 (.t 13) (.t 13))), (.op (some 4) none (.mv (.t 14)))]) (.seq (.reg [(.op (some 5) none (.mv (.c (.int .i64 0))))]) (.seq (.seq
  (.reg [(.op (some 6) none (.mv (.c (.int .i64 1))))]) (.block 0 (.loop (.seq (.seq (.reg [(.op (some 15) none (.mv (.t 6))), (.op (some 16) none (.bin .leq (.t 15) (.c
  (.int .i64 11))))]) (.cond (.t 16) .skip (.exit 0))) (.seq (.block 1 (.seq (.seq (.reg [(.op (some 19) none (.mv (.t 0))), (.op (some 20) none (.lenL (.t 19))),
  (.op (some 21) none (.mv (.c (.int .i64 0))))]) (.block 2 (.loop (.seq (.reg [(.op (some 22) none (.bin .lss (.t 21) (.t 20)))]) (.seq (.cond (.t 22) .skip (.exit 2)) (.seq
  (.block 3 (.seq (.reg [(.op (some 23) none (.mv (.t 21))), (.op (some 24) none (.iad 1 (.t 19) (.t 21))), (.op (some 25) none (.ld (.t 24))), (.op (some 7) none (.mv (.t 23))),
  (.op (some 8) none (.mv (.t 25)))]) (.seq (.reg [(.op (some 26) none (.mv (.t 8))), (.op (some 27) none (.mv (.t 6))), (.op (some 28) none (.bin .eql (.t 26) (.t 27)))]) (.cond
  (.t 28) (.seq (.reg [(.op (some 29) none (.mv (.t 4))), (.op (some 30) none (.mv (.t 7))), (.op (some 31) none (.mv (.t 5))), (.op (some 32) none (.iad 1 (.t 29) (.t 30))),
  (.op none none (.st (.t 32) (.t 31)))]) (.reg [(.op (some 33) none (.mv (.t 5))), (.op (some 34) none (.bin .add (.t 33) (.c (.int .i64 1)))), (.op (some 5) none (.mv
  (.t 34)))])) .skip)))) (.reg [(.op (some 35) none (.bin .add (.t 21) (.c (.int .i64 1)))), (.op (some 21) none (.mv (.t 35)))]))))))) (.reg [(.op (some 36) none (.mv (.t 5))),
  (.op (some 37) none (.bin .shl (.t 36) (.c (.int .u64 1)))), (.op (some 5) none (.mv (.t 37)))]))) (.reg [(.op (some 17) none (.mv (.t 6))), (.op (some 18) none (.bin .add
  (.t 17) (.c (.int .i64 1)))), (.op (some 6) none (.mv (.t 18)))])))))) (.seq (.reg [(.op (some 38) none (.mv (.t 4))), (.op (some 2) none (.mv (.t 38))), (.op (some 3) none (.mv
  (.c (.bool true))))]) .ret)))))), [(.t 2), (.t 3)]⟩
def k71 : KFunc := ⟨74, (.seq (.reg [(.op (some 6) none (.mv (.c (.bool false))))]) (.seq (.seq (.reg [(.op (some 9) none (.mv (.t 0))), (.op (some 10) none (.eqv .ptr false
  (.t 9) (.c (.pointer none)))), (.op (some 11) none (.mv (.t 10))), (.op (some 12) (some (11, false)) (.mv (.t 2))), (.op (some 13) (some (11, false)) (.call 107 [(.t 12)])),
  (.op (some 14) (some (11, false)) (.un .not (.t 13))), (.op (some 15) none (.pick (.t 11) (.c (.bool true)) (.t 14)))]) (.cond (.t 15) (.seq (.reg [(.op (some 6) none (.mv (.c
  (.bool false))))]) .ret) .skip)) (.seq (.block 0 (.loop (.seq (.seq (.reg [(.op (some 16) none (.mv (.t 2))), (.op (some 17) none (.bin .gtr (.t 16) (.c (.int .i64 0))))])
  (.cond (.t 17) .skip (.exit 0))) (.block 1 (.seq (.reg [(.op (some 18) none (.mv (.t 0))), (.op (some 19) none (.nck (.t 18))), (.op (some 20) none (.fad 1 (.t 19))),
  (.op (some 21) none (.ld (.t 20))), (.op (some 22) none (.bin .and (.t 21) (.c (.int .i64 7)))), (.op (some 7) none (.mv (.t 22)))]) (.seq (.seq (.reg [(.op (some 23) none (.mv
  (.t 7))), (.op (some 24) none (.bin .eql (.t 23) (.c (.int .i64 0))))]) (.cond (.t 24) (.reg [(.op (some 25) none (.mv (.t 0))), (.op (some 26) none (.mv (.t 0))),
  (.op (some 27) none (.nck (.t 26))), (.op (some 28) none (.fad 0 (.t 27))), (.op (some 29) none (.ld (.t 28))), (.op (some 30) none (.bsl 5 1 [(.int .u8 0)] [(0, (1, (.c
  (.int .u8 0))))])), (.op (some 31) none (.app 5 1 1 (.t 29) (.t 30))), (.op (some 32) none (.nck (.t 25))), (.op (some 33) none (.fad 0 (.t 32))), (.op none none (.st (.t 33)
  (.t 31)))]) .skip)) (.seq (.reg [(.op (some 34) none (.mv (.t 2))), (.op (some 35) none (.mv (.t 7))), (.op (some 36) none (.bin .sub (.c (.int .i64 8)) (.t 35))),
  (.op (some 37) none (.mn (.t 34) [(.t 36)])), (.op (some 8) none (.mv (.t 37)))]) (.seq (.reg [(.op (some 38) none (.mv (.t 0))), (.op (some 39) none (.nck (.t 38))),
  (.op (some 40) none (.fad 0 (.t 39))), (.op (some 41) none (.ld (.t 40))), (.op (some 42) none (.mv (.t 0))), (.op (some 43) none (.nck (.t 42))), (.op (some 44) none (.fad 0
  (.t 43))), (.op (some 45) none (.ld (.t 44))), (.op (some 46) none (.lenL (.t 45))), (.op (some 47) none (.bin .sub (.t 46) (.c (.int .i64 1)))), (.op (some 48) none (.iad 1
  (.t 41) (.t 47))), (.op (some 49) none (.ld (.t 48))), (.op (some 50) none (.mv (.t 1))), (.op (some 51) none (.mv (.t 8))), (.op (some 52) none (.bin .shl (.c (.int .u32 1))
  (.t 51))), (.op (some 53) none (.bin .sub (.t 52) (.c (.int .u32 1)))), (.op (some 54) none (.bin .and (.t 50) (.t 53))), (.op (some 55) none (.cvt .u8 (.t 54))),
  (.op (some 56) none (.mv (.t 7))), (.op (some 57) none (.bin .shl (.t 55) (.t 56))), (.op (some 58) none (.bin .or (.t 49) (.t 57))), (.op (some 59) none (.iad 1 (.t 41)
  (.t 47))), (.op none none (.st (.t 59) (.t 58)))]) (.seq (.reg [(.op (some 60) none (.mv (.t 1))), (.op (some 61) none (.mv (.t 8))), (.op (some 62) none (.bin .shr (.t 60)
  (.t 61))), (.op (some 1) none (.mv (.t 62)))]) (.seq (.reg [(.op (some 63) none (.mv (.t 0))), (.op (some 64) none (.nck (.t 63))), (.op (some 65) none (.fad 1 (.t 64))),
  (.op (some 66) none (.ld (.t 65))), (.op (some 67) none (.mv (.t 8))), (.op (some 68) none (.bin .add (.t 66) (.t 67))), (.op (some 69) none (.nck (.t 63))), (.op (some 70) none
  (.fad 1 (.t 69))), (.op none none (.st (.t 70) (.t 68)))]) (.reg [(.op (some 71) none (.mv (.t 2))), (.op (some 72) none (.mv (.t 8))), (.op (some 73) none (.bin .sub (.t 71)
  (.t 72))), (.op (some 2) none (.mv (.t 73)))]))))))))))) (.seq (.reg [(.op (some 6) none (.mv (.c (.bool true))))]) .ret)))), [(.t 6)]⟩
def k72 : KFunc := ⟨19, (.seq (.reg [(.op (some 4) none (.mv (.c (.int .u32 0))))]) (.seq (.reg [(.op (some 5) none (.mv (.c (.int .u32 0))))]) (.seq (.seq
  (.reg [(.op (some 6) none (.mv (.t 1))), (.op (some 7) none (.mv (.c (.int .i64 0))))]) (.block 0 (.loop (.seq (.reg [(.op (some 8) none (.bin .lss (.t 7) (.t 6)))]) (.seq
  (.cond (.t 8) .skip (.exit 0)) (.seq (.block 1 (.seq (.reg [(.op (some 9) none (.mv (.t 5))), (.op (some 10) none (.bin .shl (.t 9) (.c (.int .u64 1)))), (.op (some 11) none
  (.mv (.t 0))), (.op (some 12) none (.bin .and (.t 11) (.c (.int .i64 1)))), (.op (some 13) none (.cvt .u32 (.t 12))), (.op (some 14) none (.bin .or (.t 10) (.t 13))),
  (.op (some 5) none (.mv (.t 14)))]) (.reg [(.op (some 15) none (.mv (.t 0))), (.op (some 16) none (.bin .shr (.t 15) (.c (.int .u64 1)))), (.op (some 0) none (.mv (.t 16)))])))
  (.reg [(.op (some 17) none (.bin .add (.t 7) (.c (.int .i64 1)))), (.op (some 7) none (.mv (.t 17)))]))))))) (.seq (.reg [(.op (some 18) none (.mv (.t 5))), (.op (some 4) none
  (.mv (.t 18)))]) .ret)))), [(.t 4)]⟩
def k73 : KFunc := ⟨10, (.seq (.reg [(.op (some 2) none (.mv (.c (.slice none 0 0))))]) (.seq (.seq (.reg [(.op (some 3) none (.mv (.t 0))), (.op (some 4) none (.eqv .ptr false
  (.t 3) (.c (.pointer none))))]) (.cond (.t 4) (.seq (.reg [(.op (some 2) none (.mv (.c (.slice none 0 0))))]) .ret) .skip)) (.seq (.reg [(.op (some 5) none (.mv (.t 0))),
  (.op (some 6) none (.nck (.t 5))), (.op (some 7) none (.fad 0 (.t 6))), (.op (some 8) none (.ld (.t 7))), (.op (some 9) none (.app 5 1 1 (.c (.slice none 0 0)) (.t 8))),
  (.op (some 2) none (.mv (.t 9)))]) .ret))), [(.t 2)]⟩
def k74 : KFunc := ⟨21, (.seq (.reg [(.op (some 2) none (.mv (.c (.slice none 0 0))))]) (.seq (.reg [(.op (some 4) none (.mv (.t 0))), (.op (some 5) none (.lenL (.t 4))),
  (.op (some 3) none (.mv (.t 5)))]) (.seq (.block 0 (.loop (.seq (.seq (.reg [(.op (some 6) none (.mv (.t 3))), (.op (some 7) none (.bin .gtr (.t 6) (.c (.int .i64 0)))),
  (.op (some 8) none (.mv (.t 7))), (.op (some 9) (some (8, true)) (.mv (.t 0))), (.op (some 10) (some (8, true)) (.mv (.t 3))), (.op (some 11) (some (8, true)) (.bin .sub (.t 10)
  (.c (.int .i64 1)))), (.op (some 12) (some (8, true)) (.iad 1 (.t 9) (.t 11))), (.op (some 13) (some (8, true)) (.ld (.t 12))), (.op (some 14) (some (8, true)) (.bin .eql
  (.t 13) (.c (.int .i64 0)))), (.op (some 15) none (.pick (.t 8) (.t 14) (.c (.bool false))))]) (.cond (.t 15) .skip (.exit 0))) (.block 1 (.reg [(.op (some 16) none (.mv
  (.t 3))), (.op (some 17) none (.bin .sub (.t 16) (.c (.int .i64 1)))), (.op (some 3) none (.mv (.t 17)))]))))) (.seq (.reg [(.op (some 18) none (.mv (.t 0))),
  (.op (some 19) none (.mv (.t 3))), (.op (some 20) none (.slc 3 1 (.t 18) none (some (.t 19)))), (.op (some 2) none (.mv (.t 20)))]) .ret)))), [(.t 2)]⟩
def k87 : KFunc := ⟨24, (.seq (.reg [(.op (some 2) none (.mv (.c (.bool false))))]) (.seq (.seq (.reg [(.op (some 5) none (.mv (.t 0))), (.op (some 6) none (.lenL (.t 5))),
  (.op (some 7) none (.bin .gtr (.t 6) (.c (.int .i64 256))))]) (.cond (.t 7) (.seq (.reg [(.op (some 2) none (.mv (.c (.bool false))))]) .ret) .skip)) (.seq (.seq
  (.reg [(.op (some 8) none (.mv (.t 0))), (.op (some 9) none (.lenL (.t 8))), (.op (some 10) none (.mv (.c (.int .i64 0))))]) (.block 0 (.loop (.seq (.reg [(.op (some 11) none
  (.bin .lss (.t 10) (.t 9)))]) (.seq (.cond (.t 11) .skip (.exit 0)) (.seq (.block 1 (.seq (.reg [(.op (some 12) none (.iad 1 (.t 8) (.t 10))), (.op (some 13) none (.ld
  (.t 12))), (.op (some 4) none (.mv (.t 13)))]) (.seq (.reg [(.op (some 14) none (.mv (.t 4))), (.op (some 15) none (.bin .lss (.t 14) (.c (.int .i64 0)))), (.op (some 16) none
  (.mv (.t 15))), (.op (some 17) (some (16, false)) (.mv (.t 4))), (.op (some 18) (some (16, false)) (.bin .gtr (.t 17) (.c (.int .i64 1048576)))), (.op (some 19) none (.pick
  (.t 16) (.c (.bool true)) (.t 18)))]) (.cond (.t 19) (.seq (.reg [(.op (some 2) none (.mv (.c (.bool false))))]) .ret) .skip)))) (.reg [(.op (some 20) none (.bin .add (.t 10)
  (.c (.int .i64 1)))), (.op (some 10) none (.mv (.t 20)))]))))))) (.seq (.reg [(.op (some 21) none (.mv (.t 0))), (.op (some 22) none (.call 118 [(.t 21)])), (.op (some 23) none
  (.bin .gtr (.t 22) (.c (.int .i64 0)))), (.op (some 2) none (.mv (.t 23)))]) .ret)))), [(.t 2)]⟩
def k92 : KFunc := ⟨21, (.seq (.reg [(.op (some 2) none (.mv (.c (.bool false))))]) (.seq (.seq (.reg [(.op (some 5) none (.mv (.t 0))), (.op (some 6) none (.lenL (.t 5))),
  (.op (some 7) none (.mv (.c (.int .i64 0))))]) (.block 0 (.loop (.seq (.reg [(.op (some 8) none (.bin .lss (.t 7) (.t 6)))]) (.seq (.cond (.t 8) .skip (.exit 0)) (.seq (.block 1
  (.seq (.reg [(.op (some 9) none (.iad 1 (.t 5) (.t 7))), (.op (some 10) none (.ld (.t 9))), (.op (some 4) none (.mv (.t 10)))]) (.seq (.reg [(.op (some 11) none (.mv (.t 4))),
  (.op (some 12) none (.bin .lss (.t 11) (.c (.int .i64 0)))), (.op (some 13) none (.mv (.t 12))), (.op (some 14) (some (13, false)) (.mv (.t 4))), (.op (some 15) (some (13,
  false)) (.bin .gtr (.t 14) (.c (.int .i64 11)))), (.op (some 16) none (.pick (.t 13) (.c (.bool true)) (.t 15)))]) (.cond (.t 16) (.seq (.reg [(.op (some 2) none (.mv (.c
  (.bool false))))]) .ret) .skip)))) (.reg [(.op (some 17) none (.bin .add (.t 7) (.c (.int .i64 1)))), (.op (some 7) none (.mv (.t 17)))]))))))) (.seq (.reg [(.op (some 18) none
  (.mv (.t 0))), (.op (some 19) none (.lenL (.t 18))), (.op (some 20) none (.bin .leq (.t 19) (.c (.int .i64 256)))), (.op (some 2) none (.mv (.t 20)))]) .ret))), [(.t 2)]⟩
def k107 : KFunc := ⟨9, (.seq (.reg [(.op (some 2) none (.mv (.c (.bool false))))]) (.seq (.reg [(.op (some 3) none (.mv (.t 0))), (.op (some 4) none (.bin .geq (.t 3) (.c
  (.int .i64 0)))), (.op (some 5) none (.mv (.t 4))), (.op (some 6) (some (5, true)) (.mv (.t 0))), (.op (some 7) (some (5, true)) (.bin .leq (.t 6) (.c (.int .i64 32)))),
  (.op (some 8) none (.pick (.t 5) (.t 7) (.c (.bool false)))), (.op (some 2) none (.mv (.t 8)))]) .ret)), [(.t 2)]⟩
def k108 : KFunc := ⟨79, (.seq (.reg [(.op (some 2) none (.mv (.c (.slice none 0 0))))]) (.seq (.reg [(.op (some 7) none (.mv (.t 0))), (.op (some 8) none (.lenL (.t 7))),
  (.op (some 9) none (.mks 3 [(.int .i64 0)] 8 (.t 8) (.t 8))), (.op (some 3) none (.mv (.t 9)))]) (.seq (.seq (.reg [(.op (some 4) none (.mv (.c (.int .i64 0))))]) (.block 0
  (.loop (.seq (.seq (.reg [(.op (some 10) none (.mv (.t 4))), (.op (some 11) none (.mv (.t 0))), (.op (some 12) none (.lenL (.t 11))), (.op (some 13) none (.bin .lss (.t 10)
  (.t 12)))]) (.cond (.t 13) .skip (.exit 0))) (.seq (.block 1 (.seq (.seq (.reg [(.op (some 16) none (.mv (.t 0))), (.op (some 17) none (.mv (.t 4))), (.op (some 18) none (.iad 1
  (.t 16) (.t 17))), (.op (some 19) none (.ld (.t 18))), (.op (some 20) none (.bin .eql (.t 19) (.c (.int .i64 0))))]) (.cond (.t 20) (.exit 1) .skip)) (.seq
  (.reg [(.op (some 5) none (.mv (.c (.int .i64 0))))]) (.seq (.seq (.reg [(.op (some 6) none (.mv (.c (.int .i64 0))))]) (.block 2 (.loop (.seq (.seq (.reg [(.op (some 21) none
  (.mv (.t 6))), (.op (some 22) none (.mv (.t 0))), (.op (some 23) none (.lenL (.t 22))), (.op (some 24) none (.bin .lss (.t 21) (.t 23)))]) (.cond (.t 24) .skip (.exit 2))) (.seq
  (.block 3 (.seq (.reg [(.op (some 27) none (.mv (.t 0))), (.op (some 28) none (.mv (.t 6))), (.op (some 29) none (.iad 1 (.t 27) (.t 28))), (.op (some 30) none (.ld (.t 29))),
  (.op (some 31) none (.bin .gtr (.t 30) (.c (.int .i64 0)))), (.op (some 32) none (.mv (.t 31))), (.op (some 33) (some (32, true)) (.mv (.t 0))), (.op (some 34) (some (32, true))
  (.mv (.t 6))), (.op (some 35) (some (32, true)) (.iad 1 (.t 33) (.t 34))), (.op (some 36) (some (32, true)) (.ld (.t 35))), (.op (some 37) (some (32, true)) (.mv (.t 0))),
  (.op (some 38) (some (32, true)) (.mv (.t 4))), (.op (some 39) (some (32, true)) (.iad 1 (.t 37) (.t 38))), (.op (some 40) (some (32, true)) (.ld (.t 39))),
  (.op (some 41) (some (32, true)) (.bin .lss (.t 36) (.t 40))), (.op (some 42) (some (32, true)) (.mv (.t 41))), (.op (some 43) (some (42, false)) (.mv (.t 0))),
  (.op (some 44) (some (42, false)) (.mv (.t 6))), (.op (some 45) (some (42, false)) (.iad 1 (.t 43) (.t 44))), (.op (some 46) (some (42, false)) (.ld (.t 45))),
  (.op (some 47) (some (42, false)) (.mv (.t 0))), (.op (some 48) (some (42, false)) (.mv (.t 4))), (.op (some 49) (some (42, false)) (.iad 1 (.t 47) (.t 48))),
  (.op (some 50) (some (42, false)) (.ld (.t 49))), (.op (some 51) (some (42, false)) (.bin .eql (.t 46) (.t 50))), (.op (some 52) (some (42, false)) (.mv (.t 51))),
  (.op (some 53) (some (52, true)) (.mv (.t 6))), (.op (some 54) (some (52, true)) (.mv (.t 4))), (.op (some 55) (some (52, true)) (.bin .lss (.t 53) (.t 54))),
  (.op (some 56) (some (42, false)) (.pick (.t 52) (.t 55) (.c (.bool false)))), (.op (some 57) (some (32, true)) (.pick (.t 42) (.c (.bool true)) (.t 56))), (.op (some 58) none
  (.pick (.t 32) (.t 57) (.c (.bool false))))]) (.cond (.t 58) (.reg [(.op (some 59) none (.mv (.t 5))), (.op (some 60) none (.mv (.t 0))), (.op (some 61) none (.mv (.t 6))),
  (.op (some 62) none (.iad 1 (.t 60) (.t 61))), (.op (some 63) none (.ld (.t 62))), (.op (some 64) none (.bin .sub (.c (.int .i64 11)) (.t 63))), (.op (some 65) none
  (.call 60 [(.t 64)])), (.op (some 66) none (.bin .add (.t 59) (.t 65))), (.op (some 5) none (.mv (.t 66)))]) .skip))) (.reg [(.op (some 25) none (.mv (.t 6))),
  (.op (some 26) none (.bin .add (.t 25) (.c (.int .i64 1)))), (.op (some 6) none (.mv (.t 26)))])))))) (.reg [(.op (some 67) none (.mv (.t 3))), (.op (some 68) none (.mv
  (.t 4))), (.op (some 69) none (.mv (.t 5))), (.op (some 70) none (.mv (.t 0))), (.op (some 71) none (.mv (.t 4))), (.op (some 72) none (.iad 1 (.t 70) (.t 71))),
  (.op (some 73) none (.ld (.t 72))), (.op (some 74) none (.bin .sub (.c (.int .i64 11)) (.t 73))), (.op (some 75) none (.call 60 [(.t 74)])), (.op (some 76) none (.bin .quo
  (.t 69) (.t 75))), (.op (some 77) none (.iad 1 (.t 67) (.t 68))), (.op none none (.st (.t 77) (.t 76)))]))))) (.reg [(.op (some 14) none (.mv (.t 4))), (.op (some 15) none
  (.bin .add (.t 14) (.c (.int .i64 1)))), (.op (some 4) none (.mv (.t 15)))])))))) (.seq (.reg [(.op (some 78) none (.mv (.t 3))), (.op (some 2) none (.mv (.t 78)))]) .ret)))),
  [(.t 2)]⟩
def k109 : KFunc := ⟨21, (.seq (.reg [(.op (some 4) none (.mv (.c (.slice none 0 0))))]) (.seq (.reg [(.op (some 5) none (.mv (.c (.slice none 0 0))))]) (.seq (.seq
  (.reg [(.op (some 6) none (.mv (.c (.int .i64 0))))]) (.block 0 (.loop (.seq (.seq (.reg [(.op (some 7) none (.mv (.t 6))), (.op (some 8) none (.mv (.t 1))), (.op (some 9) none
  (.bin .lss (.t 7) (.t 8)))]) (.cond (.t 9) .skip (.exit 0))) (.seq (.block 1 (.reg [(.op (some 12) none (.mv (.t 5))), (.op (some 13) none (.mv (.t 0))), (.op (some 14) none
  (.mv (.t 6))), (.op (some 15) none (.bin .shr (.t 13) (.t 14))), (.op (some 16) none (.cvt .i64 (.t 15))), (.op (some 17) none (.bin .rem (.t 16) (.c (.int .i64 2)))),
  (.op (some 18) none (.bsl 3 1 [(.int .i64 0)] [(0, (1, (.t 17)))])), (.op (some 19) none (.app 3 1 8 (.t 12) (.t 18))), (.op (some 5) none (.mv (.t 19)))]))
  (.reg [(.op (some 10) none (.mv (.t 6))), (.op (some 11) none (.bin .add (.t 10) (.c (.int .i64 1)))), (.op (some 6) none (.mv (.t 11)))])))))) (.seq (.reg [(.op (some 20) none
  (.mv (.t 5))), (.op (some 4) none (.mv (.t 20)))]) .ret)))), [(.t 4)]⟩
def k118 : KFunc := ⟨17, (.seq (.reg [(.op (some 2) none (.mv (.c (.int .i64 0))))]) (.seq (.reg [(.op (some 3) none (.mv (.c (.int .i64 0))))]) (.seq (.seq
  (.reg [(.op (some 6) none (.mv (.t 0))), (.op (some 7) none (.lenL (.t 6))), (.op (some 8) none (.mv (.c (.int .i64 0))))]) (.block 0 (.loop (.seq (.reg [(.op (some 9) none
  (.bin .lss (.t 8) (.t 7)))]) (.seq (.cond (.t 9) .skip (.exit 0)) (.seq (.block 1 (.seq (.reg [(.op (some 10) none (.iad 1 (.t 6) (.t 8))), (.op (some 11) none (.ld (.t 10))),
  (.op (some 5) none (.mv (.t 11)))]) (.reg [(.op (some 12) none (.mv (.t 3))), (.op (some 13) none (.mv (.t 5))), (.op (some 14) none (.bin .add (.t 12) (.t 13))),
  (.op (some 3) none (.mv (.t 14)))]))) (.reg [(.op (some 15) none (.bin .add (.t 8) (.c (.int .i64 1)))), (.op (some 8) none (.mv (.t 15)))]))))))) (.seq
  (.reg [(.op (some 16) none (.mv (.t 3))), (.op (some 2) none (.mv (.t 16)))]) .ret)))), [(.t 2)]⟩
def k38 : KFunc := ⟨39, (.seq (.reg [(.op (some 2) none (.mv (.c (.slice none 0 0)))), (.op (some 3) none (.mv (.c (.bool false))))]) (.seq (.seq (.reg [(.op (some 8) none (.mv
  (.t 0))), (.op (some 9) none (.call 87 [(.t 8)])), (.op (some 10) none (.un .not (.t 9)))]) (.cond (.t 10) (.seq (.reg [(.op (some 2) none (.mv (.c (.slice none 0 0)))),
  (.op (some 3) none (.mv (.c (.bool false))))]) .ret) .skip)) (.seq (.reg [(.op (some 12) none (.mv (.t 0))), (.op (some 13) none (.call 88 [(.t 12)])), (.op (some 11) none (.mv
  (.t 13))), (.op (some 14) none (.xt (.t 11) 0)), (.op (some 15) none (.xt (.t 11) 1)), (.op (some 4) none (.mv (.t 14))), (.op (some 5) none (.mv (.t 15)))]) (.seq
  (.reg [(.op (some 16) none (.mv (.t 0))), (.op (some 17) none (.lenL (.t 16))), (.op (some 18) none (.mks 3 [(.int .i64 0)] 8 (.t 17) (.t 17))), (.op (some 6) none
  (.alloc 38 [(.slice none 0 0)])), (.op none none (.st (.t 6) (.t 18)))]) (.seq (.seq (.reg [(.op (some 19) none (.mv (.t 4))), (.op (some 20) none (.nck (.t 19))),
  (.op (some 21) none (.fad 2 (.t 20))), (.op (some 22) none (.ld (.t 21))), (.op (some 23) none (.bin .geq (.t 22) (.c (.int .i64 0))))]) (.cond (.t 23) (.seq
  (.reg [(.op (some 24) none (.ld (.t 6))), (.op (some 25) none (.mv (.t 4))), (.op (some 26) none (.nck (.t 25))), (.op (some 27) none (.fad 2 (.t 26))), (.op (some 28) none (.ld
  (.t 27))), (.op (some 29) none (.iad 1 (.t 24) (.t 28))), (.op none none (.st (.t 29) (.c (.int .i64 1))))]) (.seq (.reg [(.op (some 30) none (.ld (.t 6))), (.op (some 2) none
  (.mv (.t 30))), (.op (some 3) none (.mv (.c (.bool true))))]) .ret)) .skip)) (.seq (.reg [(.op (some 7) none (.alloc 3 [(.int .i64 0)])), (.op none none (.st (.t 7) (.c
  (.int .i64 0))))]) (.seq (.reg [(.op (some 31) none (.mv (.t 4))), (.op (some 32) none (.mkf (.func 90) [] [(.t 6), (.t 7)])), (.op (some 33) none (.call 89 [(.t 31), (.c
  (.int .i64 0)), (.t 32)]))]) (.seq (.seq (.reg [(.op (some 34) none (.ld (.t 7))), (.op (some 35) none (.bin .gtr (.t 34) (.c (.int .i64 11))))]) (.cond (.t 35) (.seq
  (.reg [(.op (some 36) none (.mv (.t 0))), (.op (some 37) none (.call 91 [(.t 36)])), (.op (some 2) none (.mv (.t 37))), (.op (some 3) none (.mv (.c
  (.bool true))))]) .ret) .skip)) (.seq (.reg [(.op (some 38) none (.ld (.t 6))), (.op (some 2) none (.mv (.t 38))), (.op (some 3) none (.mv (.c (.bool true))))]) .ret))))))))),
  [(.t 2), (.t 3)]⟩
def k88 : KFunc := ⟨78, (.seq (.reg [(.op (some 2) none (.mv (.c (.pointer none)))), (.op (some 3) none (.mv (.c (.int .i64 0))))]) (.seq (.reg [(.op (some 12) none
  (.bsl 120 0 [] [])), (.op (some 13) none (.box 159 (.t 12))), (.op (some 4) none (.mv (.t 13)))]) (.seq (.seq (.reg [(.op (some 14) none (.mv (.t 0))), (.op (some 15) none
  (.lenL (.t 14))), (.op (some 16) none (.mv (.c (.int .i64 0))))]) (.block 0 (.loop (.seq (.reg [(.op (some 17) none (.bin .lss (.t 16) (.t 15)))]) (.seq (.cond (.t 17) .skip
  (.exit 0)) (.seq (.block 1 (.seq (.reg [(.op (some 18) none (.mv (.t 16))), (.op (some 19) none (.iad 1 (.t 14) (.t 16))), (.op (some 20) none (.ld (.t 19))), (.op (some 5) none
  (.mv (.t 18))), (.op (some 6) none (.mv (.t 20)))]) (.seq (.reg [(.op (some 21) none (.mv (.t 6))), (.op (some 22) none (.bin .gtr (.t 21) (.c (.int .i64 0))))]) (.cond (.t 22)
  (.reg [(.op (some 23) none (.mv (.t 4))), (.op (some 24) none (.mv (.t 4))), (.op (some 25) none (.nck (.t 24))), (.op (some 26) none (.ld (.t 25))), (.op (some 27) none (.mv
  (.t 6))), (.op (some 28) none (.mv (.t 5))), (.op (some 29) none (.mv (.t 5))), (.op (some 30) none (.build [(.int .i64 0), (.int .i64 0), (.int .i64 0), (.pointer none),
  (.pointer none)] [(0, (1, (.t 27))), (1, (1, (.t 28))), (2, (1, (.t 29)))])), (.op (some 31) none (.box 124 (.t 30))), (.op (some 32) none (.bsl 120 1 [(.pointer none)] [(0, (1,
  (.t 31)))])), (.op (some 33) none (.app 120 1 8 (.t 26) (.t 32))), (.op (some 34) none (.nck (.t 23))), (.op none none (.st (.t 34) (.t 33)))]) .skip))))
  (.reg [(.op (some 35) none (.bin .add (.t 16) (.c (.int .i64 1)))), (.op (some 16) none (.mv (.t 35)))]))))))) (.seq (.reg [(.op (some 36) none (.mv (.t 4))),
  (.op (some 37) none (.mki 157 (.t 36))), (.op (some 38) none (.call 111 [(.t 37)]))]) (.seq (.reg [(.op (some 7) none (.mv (.c (.int .i64 0))))]) (.seq (.seq
  (.reg [(.op (some 8) none (.mv (.c (.int .i64 256))))]) (.block 2 (.loop (.seq (.seq (.reg [(.op (some 39) none (.mv (.t 4))), (.op (some 40) none (.nck (.t 39))),
  (.op (some 41) none (.ld (.t 40))), (.op (some 42) none (.call 119 [(.t 41)])), (.op (some 43) none (.bin .gtr (.t 42) (.c (.int .i64 1))))]) (.cond (.t 43) .skip (.exit 2)))
  (.seq (.block 3 (.seq (.reg [(.op (some 46) none (.mv (.t 4))), (.op (some 47) none (.call 120 [(.t 46)])), (.op (some 48) none (.mv (.t 4))), (.op (some 49) none
  (.call 120 [(.t 48)])), (.op (some 9) none (.mv (.t 47))), (.op (some 10) none (.mv (.t 49)))]) (.seq (.reg [(.op (some 50) none (.mv (.t 9))), (.op (some 51) none (.nck
  (.t 50))), (.op (some 52) none (.fad 0 (.t 51))), (.op (some 53) none (.ld (.t 52))), (.op (some 54) none (.mv (.t 10))), (.op (some 55) none (.nck (.t 54))),
  (.op (some 56) none (.fad 0 (.t 55))), (.op (some 57) none (.ld (.t 56))), (.op (some 58) none (.bin .add (.t 53) (.t 57))), (.op (some 59) none (.mv (.t 8))),
  (.op (some 60) none (.mv (.t 9))), (.op (some 61) none (.mv (.t 10))), (.op (some 62) none (.build [(.int .i64 0), (.int .i64 0), (.int .i64 0), (.pointer none),
  (.pointer none)] [(0, (1, (.t 58))), (1, (1, (.t 59))), (2, (1, (.c (.int .i64 (-1))))), (3, (1, (.t 60))), (4, (1, (.t 61)))])), (.op (some 63) none (.box 124 (.t 62))),
  (.op (some 11) none (.mv (.t 63)))]) (.seq (.reg [(.op (some 64) none (.mv (.t 7))), (.op (some 65) none (.mv (.t 11))), (.op (some 66) none (.nck (.t 65))), (.op (some 67) none
  (.fad 0 (.t 66))), (.op (some 68) none (.ld (.t 67))), (.op (some 69) none (.bin .add (.t 64) (.t 68))), (.op (some 7) none (.mv (.t 69)))]) (.reg [(.op (some 70) none (.mv
  (.t 4))), (.op (some 71) none (.mki 157 (.t 70))), (.op (some 72) none (.mv (.t 11))), (.op (some 73) none (.mki 120 (.t 72))), (.op (some 74) none (.call 114 [(.t 71),
  (.t 73)]))]))))) (.reg [(.op (some 44) none (.mv (.t 8))), (.op (some 45) none (.bin .add (.t 44) (.c (.int .i64 1)))), (.op (some 8) none (.mv (.t 45)))])))))) (.seq
  (.reg [(.op (some 75) none (.mv (.t 4))), (.op (some 76) none (.call 120 [(.t 75)])), (.op (some 77) none (.mv (.t 7))), (.op (some 2) none (.mv (.t 76))), (.op (some 3) none
  (.mv (.t 77)))]) .ret))))))), [(.t 2), (.t 3)]⟩
def k89 : KFunc := ⟨34, (.seq (.seq (.reg [(.op (some 6) none (.mv (.t 0))), (.op (some 7) none (.nck (.t 6))), (.op (some 8) none (.fad 2 (.t 7))), (.op (some 9) none (.ld
  (.t 8))), (.op (some 10) none (.bin .geq (.t 9) (.c (.int .i64 0))))]) (.cond (.t 10) (.seq (.reg [(.op (some 11) none (.mv (.t 2))), (.op (some 12) none (.mv (.t 0))),
  (.op (some 13) none (.nck (.t 12))), (.op (some 14) none (.fad 2 (.t 13))), (.op (some 15) none (.ld (.t 14))), (.op (some 16) none (.mv (.t 1))), (.op (some 17) none (.callv
  (.t 11) [(.t 15), (.t 16)]))]) .ret) .skip)) (.seq (.reg [(.op (some 18) none (.mv (.t 0))), (.op (some 19) none (.nck (.t 18))), (.op (some 20) none (.fad 3 (.t 19))),
  (.op (some 21) none (.ld (.t 20))), (.op (some 22) none (.mv (.t 1))), (.op (some 23) none (.bin .add (.t 22) (.c (.int .i64 1)))), (.op (some 24) none (.mv (.t 2))),
  (.op (some 25) none (.call 89 [(.t 21), (.t 23), (.t 24)]))]) (.reg [(.op (some 26) none (.mv (.t 0))), (.op (some 27) none (.nck (.t 26))), (.op (some 28) none (.fad 4
  (.t 27))), (.op (some 29) none (.ld (.t 28))), (.op (some 30) none (.mv (.t 1))), (.op (some 31) none (.bin .add (.t 30) (.c (.int .i64 1)))), (.op (some 32) none (.mv (.t 2))),
  (.op (some 33) none (.call 89 [(.t 29), (.t 31), (.t 32)]))]))), []⟩
def k90 : KFunc := ⟨13, (.seq (.reg [(.op (some 6) none (.ld (.t 2))), (.op (some 7) none (.mv (.t 0))), (.op (some 8) none (.mv (.t 1))), (.op (some 9) none (.iad 1 (.t 6)
  (.t 7))), (.op none none (.st (.t 9) (.t 8)))]) (.reg [(.op (some 10) none (.ld (.t 3))), (.op (some 11) none (.mv (.t 1))), (.op (some 12) none (.mx (.t 10) [(.t 11)])),
  (.op none none (.st (.t 3) (.t 12)))])), []⟩
def k111 : KFunc := ⟨17, (.seq (.reg [(.op (some 4) none (.mv (.t 0))), (.op (some 5) none (.inv (.t 4) "Len" [])), (.op (some 2) none (.mv (.t 5)))]) (.seq
  (.reg [(.op (some 6) none (.mv (.t 2))), (.op (some 7) none (.bin .quo (.t 6) (.c (.int .i64 2)))), (.op (some 8) none (.bin .sub (.t 7) (.c (.int .i64 1)))), (.op (some 3) none
  (.mv (.t 8)))]) (.block 0 (.loop (.seq (.seq (.reg [(.op (some 9) none (.mv (.t 3))), (.op (some 10) none (.bin .geq (.t 9) (.c (.int .i64 0))))]) (.cond (.t 10) .skip
  (.exit 0))) (.seq (.block 1 (.reg [(.op (some 13) none (.mv (.t 0))), (.op (some 14) none (.mv (.t 3))), (.op (some 15) none (.mv (.t 2))), (.op (some 16) none
  (.call 131 [(.t 13), (.t 14), (.t 15)]))])) (.reg [(.op (some 11) none (.mv (.t 3))), (.op (some 12) none (.bin .sub (.t 11) (.c (.int .i64 1)))), (.op (some 3) none (.mv
  (.t 12)))]))))))), []⟩
def k113 : KFunc := ⟨15, (.seq (.reg [(.op (some 2) none (.mv (.c .nilIface)))]) (.seq (.reg [(.op (some 4) none (.mv (.t 0))), (.op (some 5) none (.inv (.t 4) "Len" [])),
  (.op (some 6) none (.bin .sub (.t 5) (.c (.int .i64 1)))), (.op (some 3) none (.mv (.t 6)))]) (.seq (.reg [(.op (some 7) none (.mv (.t 0))), (.op (some 8) none (.mv (.t 3))),
  (.op (some 9) none (.inv (.t 7) "Swap" [(.c (.int .i64 0)), (.t 8)]))]) (.seq (.reg [(.op (some 10) none (.mv (.t 0))), (.op (some 11) none (.mv (.t 3))), (.op (some 12) none
  (.call 131 [(.t 10), (.c (.int .i64 0)), (.t 11)]))]) (.seq (.reg [(.op (some 13) none (.mv (.t 0))), (.op (some 14) none (.inv (.t 13) "Pop" [])), (.op (some 2) none (.mv
  (.t 14)))]) .ret))))), [(.t 2)]⟩
def k114 : KFunc := ⟨12, (.seq (.reg [(.op (some 4) none (.mv (.t 0))), (.op (some 5) none (.mv (.t 1))), (.op (some 6) none (.inv (.t 4) "Push" [(.t 5)]))])
  (.reg [(.op (some 7) none (.mv (.t 0))), (.op (some 8) none (.mv (.t 0))), (.op (some 9) none (.inv (.t 8) "Len" [])), (.op (some 10) none (.bin .sub (.t 9) (.c
  (.int .i64 1)))), (.op (some 11) none (.call 132 [(.t 7), (.t 10)]))])), []⟩
def k119 : KFunc := ⟨5, (.seq (.reg [(.op (some 2) none (.mv (.c (.int .i64 0))))]) (.seq (.reg [(.op (some 3) none (.mv (.t 0))), (.op (some 4) none (.lenL (.t 3))),
  (.op (some 2) none (.mv (.t 4)))]) .ret)), [(.t 2)]⟩
def k120 : KFunc := ⟨13, (.seq (.reg [(.op (some 2) none (.mv (.c (.pointer none))))]) (.seq (.reg [(.op (some 6) none (.mv (.t 0))), (.op (some 7) none (.mki 157 (.t 6))),
  (.op (some 8) none (.call 113 [(.t 7)])), (.op (some 9) none (.tas 120 (.pointer none) true (.t 8))), (.op (some 5) none (.mv (.t 9))), (.op (some 10) none (.xt (.t 5) 0)),
  (.op (some 11) none (.xt (.t 5) 1)), (.op (some 3) none (.mv (.t 10))), (.op (some 4) none (.mv (.t 11)))]) (.seq (.reg [(.op (some 12) none (.mv (.t 3))), (.op (some 2) none
  (.mv (.t 12)))]) .ret))), [(.t 2)]⟩
def k124 : KFunc := ⟨20, (.seq (.reg [(.op (some 4) none (.mv (.c (.int .i64 0))))]) (.seq (.reg [(.op (some 7) none (.mv (.t 0))), (.op (some 8) none (.call 137 [(.t 7)])),
  (.op (some 5) none (.mv (.t 8)))]) (.seq (.reg [(.op (some 9) none (.mv (.t 1))), (.op (some 10) none (.call 137 [(.t 9)])), (.op (some 6) none (.mv (.t 10)))]) (.seq (.seq
  (.reg [(.op (some 11) none (.mv (.t 5)))]) (.cond (.t 11) (.seq (.seq (.reg [(.op (some 12) none (.mv (.t 6)))]) (.cond (.t 12) (.seq (.reg [(.op (some 4) none (.mv (.c
  (.int .i64 0))))]) .ret) .skip)) (.seq (.reg [(.op (some 4) none (.mv (.c (.int .i64 (-1)))))]) .ret)) .skip)) (.seq (.seq (.reg [(.op (some 13) none (.mv (.t 6)))]) (.cond
  (.t 13) (.seq (.reg [(.op (some 4) none (.mv (.c (.int .i64 1))))]) .ret) .skip)) (.seq (.seq (.reg [(.op (some 14) none (.mv (.t 0))), (.op (some 15) none (.mv (.t 1))),
  (.op (some 16) none (.bin .lss (.t 14) (.t 15)))]) (.cond (.t 16) (.seq (.reg [(.op (some 4) none (.mv (.c (.int .i64 (-1)))))]) .ret) .skip)) (.seq (.seq
  (.reg [(.op (some 17) none (.mv (.t 0))), (.op (some 18) none (.mv (.t 1))), (.op (some 19) none (.bin .gtr (.t 17) (.t 18)))]) (.cond (.t 19) (.seq (.reg [(.op (some 4) none
  (.mv (.c (.int .i64 1))))]) .ret) .skip)) (.seq (.reg [(.op (some 4) none (.mv (.c (.int .i64 0))))]) .ret)))))))), [(.t 4)]⟩
def k131 : KFunc := ⟨48, (.seq (.reg [(.op (some 6) none (.mv (.c (.bool false))))]) (.seq (.reg [(.op (some 11) none (.mv (.t 1))), (.op (some 7) none (.mv (.t 11)))]) (.seq
  (.block 0 (.loop (.block 1 (.seq (.reg [(.op (some 12) none (.mv (.t 7))), (.op (some 13) none (.bin .mul (.c (.int .i64 2)) (.t 12))), (.op (some 14) none (.bin .add (.t 13)
  (.c (.int .i64 1)))), (.op (some 8) none (.mv (.t 14)))]) (.seq (.seq (.reg [(.op (some 15) none (.mv (.t 8))), (.op (some 16) none (.mv (.t 2))), (.op (some 17) none (.bin .geq
  (.t 15) (.t 16))), (.op (some 18) none (.mv (.t 17))), (.op (some 19) (some (18, false)) (.mv (.t 8))), (.op (some 20) (some (18, false)) (.bin .lss (.t 19) (.c
  (.int .i64 0)))), (.op (some 21) none (.pick (.t 18) (.c (.bool true)) (.t 20)))]) (.cond (.t 21) (.exit 0) .skip)) (.seq (.reg [(.op (some 22) none (.mv (.t 8))),
  (.op (some 9) none (.mv (.t 22)))]) (.seq (.seq (.reg [(.op (some 23) none (.mv (.t 8))), (.op (some 24) none (.bin .add (.t 23) (.c (.int .i64 1)))), (.op (some 10) none (.mv
  (.t 24)))]) (.seq (.reg [(.op (some 25) none (.mv (.t 10))), (.op (some 26) none (.mv (.t 2))), (.op (some 27) none (.bin .lss (.t 25) (.t 26))), (.op (some 28) none (.mv
  (.t 27))), (.op (some 29) (some (28, true)) (.mv (.t 0))), (.op (some 30) (some (28, true)) (.mv (.t 10))), (.op (some 31) (some (28, true)) (.mv (.t 8))),
  (.op (some 32) (some (28, true)) (.inv (.t 29) "Less" [(.t 30), (.t 31)])), (.op (some 33) none (.pick (.t 28) (.t 32) (.c (.bool false))))]) (.cond (.t 33)
  (.reg [(.op (some 34) none (.mv (.t 10))), (.op (some 9) none (.mv (.t 34)))]) .skip))) (.seq (.seq (.reg [(.op (some 35) none (.mv (.t 0))), (.op (some 36) none (.mv (.t 9))),
  (.op (some 37) none (.mv (.t 7))), (.op (some 38) none (.inv (.t 35) "Less" [(.t 36), (.t 37)])), (.op (some 39) none (.un .not (.t 38)))]) (.cond (.t 39) (.exit 0) .skip))
  (.seq (.reg [(.op (some 40) none (.mv (.t 0))), (.op (some 41) none (.mv (.t 7))), (.op (some 42) none (.mv (.t 9))), (.op (some 43) none (.inv (.t 40) "Swap" [(.t 41),
  (.t 42)]))]) (.reg [(.op (some 44) none (.mv (.t 9))), (.op (some 7) none (.mv (.t 44)))])))))))))) (.seq (.reg [(.op (some 45) none (.mv (.t 7))), (.op (some 46) none (.mv
  (.t 1))), (.op (some 47) none (.bin .gtr (.t 45) (.t 46))), (.op (some 6) none (.mv (.t 47)))]) .ret)))), [(.t 6)]⟩
def k132 : KFunc := ⟨23, (.block 0 (.loop (.block 1 (.seq (.reg [(.op (some 5) none (.mv (.t 1))), (.op (some 6) none (.bin .sub (.t 5) (.c (.int .i64 1)))), (.op (some 7) none
  (.bin .quo (.t 6) (.c (.int .i64 2)))), (.op (some 4) none (.mv (.t 7)))]) (.seq (.seq (.reg [(.op (some 8) none (.mv (.t 4))), (.op (some 9) none (.mv (.t 1))),
  (.op (some 10) none (.bin .eql (.t 8) (.t 9))), (.op (some 11) none (.mv (.t 10))), (.op (some 12) (some (11, false)) (.mv (.t 0))), (.op (some 13) (some (11, false)) (.mv
  (.t 1))), (.op (some 14) (some (11, false)) (.mv (.t 4))), (.op (some 15) (some (11, false)) (.inv (.t 12) "Less" [(.t 13), (.t 14)])), (.op (some 16) (some (11, false))
  (.un .not (.t 15))), (.op (some 17) none (.pick (.t 11) (.c (.bool true)) (.t 16)))]) (.cond (.t 17) (.exit 0) .skip)) (.seq (.reg [(.op (some 18) none (.mv (.t 0))),
  (.op (some 19) none (.mv (.t 4))), (.op (some 20) none (.mv (.t 1))), (.op (some 21) none (.inv (.t 18) "Swap" [(.t 19), (.t 20)]))]) (.reg [(.op (some 22) none (.mv (.t 4))),
  (.op (some 1) none (.mv (.t 22)))]))))))), []⟩
def k137 : KFunc := ⟨6, (.seq (.reg [(.op (some 2) none (.mv (.c (.bool false))))]) (.seq (.reg [(.op (some 3) none (.mv (.t 0))), (.op (some 4) none (.mv (.t 0))),
  (.op (some 5) none (.bin .neq (.t 3) (.t 4))), (.op (some 2) none (.mv (.t 5)))]) .ret)), [(.t 2)]⟩
def k167 : KFunc := ⟨18, (.seq (.reg [(.op (some 2) none (.mv (.c (.int .i64 0))))]) (.seq (.reg [(.op (some 3) none (.mv (.c (.int .i64 0))))]) (.seq (.seq
  (.reg [(.op (some 6) none (.mv (.t 0))), (.op (some 7) none (.lenL (.t 6))), (.op (some 8) none (.mv (.c (.int .i64 0))))]) (.block 0 (.loop (.seq (.reg [(.op (some 9) none
  (.bin .lss (.t 8) (.t 7)))]) (.seq (.cond (.t 9) .skip (.exit 0)) (.seq (.block 1 (.seq (.reg [(.op (some 10) none (.iad 1 (.t 6) (.t 8))), (.op (some 11) none (.ld (.t 10))),
  (.op (some 5) none (.mv (.t 11)))]) (.seq (.reg [(.op (some 12) none (.mv (.t 5))), (.op (some 13) none (.mv (.t 3))), (.op (some 14) none (.bin .neq (.t 12) (.t 13)))]) (.cond
  (.t 14) (.seq (.reg [(.op (some 15) none (.mv (.t 5))), (.op (some 2) none (.mv (.t 15)))]) .ret) .skip)))) (.reg [(.op (some 16) none (.bin .add (.t 8) (.c (.int .i64 1)))),
  (.op (some 8) none (.mv (.t 16)))]))))))) (.seq (.reg [(.op (some 17) none (.mv (.t 3))), (.op (some 2) none (.mv (.t 17)))]) .ret)))), [(.t 2)]⟩
def k170 : KFunc := ⟨40, (.seq (.reg [(.op (some 6) none (.mv (.c (.bool false))))]) (.seq (.reg [(.op (some 7) none (.mv (.t 0))), (.op (some 8) none (.mv (.t 1))),
  (.op (some 9) none (.iad 1 (.t 7) (.t 8))), (.op (some 10) none (.ld (.t 9))), (.op (some 11) none (.nck (.t 10))), (.op (some 12) none (.fad 0 (.t 11))), (.op (some 13) none
  (.ld (.t 12))), (.op (some 14) none (.mv (.t 0))), (.op (some 15) none (.mv (.t 2))), (.op (some 16) none (.iad 1 (.t 14) (.t 15))), (.op (some 17) none (.ld (.t 16))),
  (.op (some 18) none (.nck (.t 17))), (.op (some 19) none (.fad 0 (.t 18))), (.op (some 20) none (.ld (.t 19))), (.op (some 22) none (.mv (.t 0))), (.op (some 23) none (.mv
  (.t 1))), (.op (some 24) none (.iad 1 (.t 22) (.t 23))), (.op (some 25) none (.ld (.t 24))), (.op (some 26) none (.nck (.t 25))), (.op (some 27) none (.fad 1 (.t 26))),
  (.op (some 28) none (.ld (.t 27))), (.op (some 29) none (.mv (.t 0))), (.op (some 30) none (.mv (.t 2))), (.op (some 31) none (.iad 1 (.t 29) (.t 30))), (.op (some 32) none (.ld
  (.t 31))), (.op (some 33) none (.nck (.t 32))), (.op (some 34) none (.fad 1 (.t 33))), (.op (some 35) none (.ld (.t 34))), (.op (some 21) none (.call 124 [(.t 13), (.t 20)])),
  (.chk 25 none (.ld (.t 24))), (.chk 28 none (.ld (.t 27))), (.chk 32 none (.ld (.t 31))), (.chk 35 none (.ld (.t 34))), (.op (some 36) none (.call 124 [(.t 28), (.t 35)])),
  (.op (some 37) none (.bsl 3 2 [(.int .i64 0), (.int .i64 0)] [(0, (1, (.t 21))), (1, (1, (.t 36)))])), (.op (some 38) none (.call 167 [(.t 37)])), (.op (some 39) none (.bin .lss
  (.t 38) (.c (.int .i64 0)))), (.op (some 6) none (.mv (.t 39)))]) .ret)), [(.t 6)]⟩
def k171 : KFunc := ⟨25, (.seq (.reg [(.op (some 2) none (.mv (.c .nilIface)))]) (.seq (.reg [(.op (some 5) none (.mv (.t 0))), (.op (some 6) none (.nck (.t 5))),
  (.op (some 7) none (.ld (.t 6))), (.op (some 8) none (.lenL (.t 7))), (.op (some 9) none (.bin .sub (.t 8) (.c (.int .i64 1)))), (.op (some 3) none (.mv (.t 9)))]) (.seq
  (.reg [(.op (some 10) none (.mv (.t 0))), (.op (some 11) none (.nck (.t 10))), (.op (some 12) none (.ld (.t 11))), (.op (some 13) none (.mv (.t 3))), (.op (some 14) none (.iad 1
  (.t 12) (.t 13))), (.op (some 15) none (.ld (.t 14))), (.op (some 4) none (.mv (.t 15)))]) (.seq (.reg [(.op (some 16) none (.mv (.t 0))), (.op (some 17) none (.mv (.t 0))),
  (.op (some 18) none (.nck (.t 17))), (.op (some 19) none (.ld (.t 18))), (.op (some 20) none (.mv (.t 3))), (.op (some 21) none (.slc 120 1 (.t 19) none (some (.t 20)))),
  (.op (some 22) none (.nck (.t 16))), (.op none none (.st (.t 22) (.t 21)))]) (.seq (.reg [(.op (some 23) none (.mv (.t 4))), (.op (some 24) none (.mki 120 (.t 23))),
  (.op (some 2) none (.mv (.t 24)))]) .ret))))), [(.t 2)]⟩
def k172 : KFunc := ⟨20, (.seq (.reg [(.op (some 7) none (.mv (.t 1))), (.op (some 8) none (.tas 120 (.pointer none) true (.t 7))), (.op (some 6) none (.mv (.t 8))),
  (.op (some 9) none (.xt (.t 6) 0)), (.op (some 10) none (.xt (.t 6) 1)), (.op (some 4) none (.mv (.t 9))), (.op (some 5) none (.mv (.t 10)))]) (.seq (.reg [(.op (some 11) none
  (.mv (.t 5)))]) (.cond (.t 11) (.reg [(.op (some 12) none (.mv (.t 0))), (.op (some 13) none (.mv (.t 0))), (.op (some 14) none (.nck (.t 13))), (.op (some 15) none (.ld
  (.t 14))), (.op (some 16) none (.mv (.t 4))), (.op (some 17) none (.bsl 120 1 [(.pointer none)] [(0, (1, (.t 16)))])), (.op (some 18) none (.app 120 1 8 (.t 15) (.t 17))),
  (.op (some 19) none (.nck (.t 12))), (.op none none (.st (.t 19) (.t 18)))]) .skip))), []⟩
def k173 : KFunc := ⟨20, (.reg [(.op (some 6) none (.mv (.t 0))), (.op (some 7) none (.mv (.t 1))), (.op (some 8) none (.mv (.t 0))), (.op (some 9) none (.mv (.t 2))),
  (.op (some 10) none (.mv (.t 0))), (.op (some 11) none (.mv (.t 2))), (.op (some 12) none (.iad 1 (.t 10) (.t 11))), (.op (some 13) none (.ld (.t 12))), (.op (some 14) none (.mv
  (.t 0))), (.op (some 15) none (.mv (.t 1))), (.op (some 16) none (.iad 1 (.t 14) (.t 15))), (.op (some 17) none (.ld (.t 16))), (.op (some 18) none (.iad 1 (.t 6) (.t 7))),
  (.op none none (.st (.t 18) (.t 13))), (.op (some 19) none (.iad 1 (.t 8) (.t 9))), (.op none none (.st (.t 19) (.t 17)))]), []⟩
def k46 : KFunc := ⟨21, (.seq (.reg [(.op (some 0) none (.mv (.c (.bool false))))]) (.seq (.reg [(.op (some 4) none (.call 49 [(.c (.string (bs [1, 4, 97])))])),
  (.op (some 5) none (.call 48 [(.t 4), (.c (.int .i64 4))])), (.op (some 3) none (.mv (.t 5))), (.op (some 6) none (.xt (.t 3) 0)), (.op (some 7) none (.xt (.t 3) 1)),
  (.op (some 1) none (.mv (.t 6))), (.op (some 2) none (.mv (.t 7)))]) (.seq (.reg [(.op (some 8) none (.call 47 [(.c (.string (bs [97, 97, 97, 97])))])), (.op (some 9) none
  (.bin .eql (.t 8) (.c (.string (bs [1, 4, 97]))))), (.op (some 10) none (.mv (.t 9))), (.op (some 11) (some (10, true)) (.mv (.t 2))), (.op (some 12) none (.pick (.t 10) (.t 11)
  (.c (.bool false)))), (.op (some 13) none (.mv (.t 12))), (.op (some 14) (some (13, true)) (.mv (.t 1))), (.op (some 15) (some (13, true)) (.bin .eql (.t 14) (.c
  (.string (bs [97, 97, 97, 97]))))), (.op (some 16) none (.pick (.t 13) (.t 15) (.c (.bool false)))), (.op (some 17) none (.mv (.t 16))), (.op (some 18) (some (17, true))
  (.call 94 [(.c (.string (bs [97, 98])))])), (.op (some 19) (some (17, true)) (.bin .eql (.t 18) (.c (.string (bs [0, 2, 97, 98]))))), (.op (some 20) none (.pick (.t 17) (.t 19)
  (.c (.bool false)))), (.op (some 0) none (.mv (.t 20)))]) .ret))), [(.t 0)]⟩
theorem c12 : okFunc Go.Proofs.Try.prog 12 = true ∧ ∃ fn, Go.Proofs.Try.prog.funcs[12]? = some fn ∧ cFunc Go.Proofs.Try.prog fn = some k12 := ⟨by kernel_rfl, Go.Proofs.Try.f12, Go.Proofs.Try.func12, by kernel_rfl⟩
theorem c47 : okFunc Go.Proofs.Try.prog 47 = true ∧ ∃ fn, Go.Proofs.Try.prog.funcs[47]? = some fn ∧ cFunc Go.Proofs.Try.prog fn = some k47 := ⟨by kernel_rfl, Go.Proofs.Try.f47, Go.Proofs.Try.func47, by kernel_rfl⟩
theorem c48 : okFunc Go.Proofs.Try.prog 48 = true ∧ ∃ fn, Go.Proofs.Try.prog.funcs[48]? = some fn ∧ cFunc Go.Proofs.Try.prog fn = some k48 := ⟨by kernel_rfl, Go.Proofs.Try.f48, Go.Proofs.Try.func48, by kernel_rfl⟩
theorem c49 : okFunc Go.Proofs.Try.prog 49 = true ∧ ∃ fn, Go.Proofs.Try.prog.funcs[49]? = some fn ∧ cFunc Go.Proofs.Try.prog fn = some k49 := ⟨by kernel_rfl, Go.Proofs.Try.f49, Go.Proofs.Try.func49, by kernel_rfl⟩
theorem c50 : okFunc Go.Proofs.Try.prog 50 = true ∧ ∃ fn, Go.Proofs.Try.prog.funcs[50]? = some fn ∧ cFunc Go.Proofs.Try.prog fn = some k50 := ⟨by kernel_rfl, Go.Proofs.Try.f50, Go.Proofs.Try.func50, by kernel_rfl⟩
theorem c51 : okFunc Go.Proofs.Try.prog 51 = true ∧ ∃ fn, Go.Proofs.Try.prog.funcs[51]? = some fn ∧ cFunc Go.Proofs.Try.prog fn = some k51 := ⟨by kernel_rfl, Go.Proofs.Try.f51, Go.Proofs.Try.func51, by kernel_rfl⟩
theorem c52 : okFunc Go.Proofs.Try.prog 52 = true ∧ ∃ fn, Go.Proofs.Try.prog.funcs[52]? = some fn ∧ cFunc Go.Proofs.Try.prog fn = some k52 := ⟨by kernel_rfl, Go.Proofs.Try.f52, Go.Proofs.Try.func52, by kernel_rfl⟩
theorem c53 : okFunc Go.Proofs.Try.prog 53 = true ∧ ∃ fn, Go.Proofs.Try.prog.funcs[53]? = some fn ∧ cFunc Go.Proofs.Try.prog fn = some k53 := ⟨by kernel_rfl, Go.Proofs.Try.f53, Go.Proofs.Try.func53, by kernel_rfl⟩
theorem c54 : okFunc Go.Proofs.Try.prog 54 = true ∧ ∃ fn, Go.Proofs.Try.prog.funcs[54]? = some fn ∧ cFunc Go.Proofs.Try.prog fn = some k54 := ⟨by kernel_rfl, Go.Proofs.Try.f54, Go.Proofs.Try.func54, by kernel_rfl⟩
theorem c55 : okFunc Go.Proofs.Try.prog 55 = true ∧ ∃ fn, Go.Proofs.Try.prog.funcs[55]? = some fn ∧ cFunc Go.Proofs.Try.prog fn = some k55 := ⟨by kernel_rfl, Go.Proofs.Try.f55, Go.Proofs.Try.func55, by kernel_rfl⟩
theorem c57 : okFunc Go.Proofs.Try.prog 57 = true ∧ ∃ fn, Go.Proofs.Try.prog.funcs[57]? = some fn ∧ cFunc Go.Proofs.Try.prog fn = some k57 := ⟨by kernel_rfl, Go.Proofs.Try.f57, Go.Proofs.Try.func57, by kernel_rfl⟩
theorem c58 : okFunc Go.Proofs.Try.prog 58 = true ∧ ∃ fn, Go.Proofs.Try.prog.funcs[58]? = some fn ∧ cFunc Go.Proofs.Try.prog fn = some k58 := ⟨by kernel_rfl, Go.Proofs.Try.f58, Go.Proofs.Try.func58, by kernel_rfl⟩
theorem c94 : okFunc Go.Proofs.Try.prog 94 = true ∧ ∃ fn, Go.Proofs.Try.prog.funcs[94]? = some fn ∧ cFunc Go.Proofs.Try.prog fn = some k94 := ⟨by kernel_rfl, Go.Proofs.Try.f94, Go.Proofs.Try.func94, by kernel_rfl⟩
theorem c95 : okFunc Go.Proofs.Try.prog 95 = true ∧ ∃ fn, Go.Proofs.Try.prog.funcs[95]? = some fn ∧ cFunc Go.Proofs.Try.prog fn = some k95 := ⟨by kernel_rfl, Go.Proofs.Try.f95, Go.Proofs.Try.func95, by kernel_rfl⟩
theorem c96 : okFunc Go.Proofs.Try.prog 96 = true ∧ ∃ fn, Go.Proofs.Try.prog.funcs[96]? = some fn ∧ cFunc Go.Proofs.Try.prog fn = some k96 := ⟨by kernel_rfl, Go.Proofs.Try.f96, Go.Proofs.Try.func96, by kernel_rfl⟩
theorem c97 : okFunc Go.Proofs.Try.prog 97 = true ∧ ∃ fn, Go.Proofs.Try.prog.funcs[97]? = some fn ∧ cFunc Go.Proofs.Try.prog fn = some k97 := ⟨by kernel_rfl, Go.Proofs.Try.f97, Go.Proofs.Try.func97, by kernel_rfl⟩
theorem c98 : okFunc Go.Proofs.Try.prog 98 = true ∧ ∃ fn, Go.Proofs.Try.prog.funcs[98]? = some fn ∧ cFunc Go.Proofs.Try.prog fn = some k98 := ⟨by kernel_rfl, Go.Proofs.Try.f98, Go.Proofs.Try.func98, by kernel_rfl⟩
theorem c99 : okFunc Go.Proofs.Try.prog 99 = true ∧ ∃ fn, Go.Proofs.Try.prog.funcs[99]? = some fn ∧ cFunc Go.Proofs.Try.prog fn = some k99 := ⟨by kernel_rfl, Go.Proofs.Try.f99, Go.Proofs.Try.func99, by kernel_rfl⟩
theorem c100 : okFunc Go.Proofs.Try.prog 100 = true ∧ ∃ fn, Go.Proofs.Try.prog.funcs[100]? = some fn ∧ cFunc Go.Proofs.Try.prog fn = some k100 := ⟨by kernel_rfl, Go.Proofs.Try.f100, Go.Proofs.Try.func100, by kernel_rfl⟩
theorem c101 : okFunc Go.Proofs.Try.prog 101 = true ∧ ∃ fn, Go.Proofs.Try.prog.funcs[101]? = some fn ∧ cFunc Go.Proofs.Try.prog fn = some k101 := ⟨by kernel_rfl, Go.Proofs.Try.f101, Go.Proofs.Try.func101, by kernel_rfl⟩
theorem c102 : okFunc Go.Proofs.Try.prog 102 = true ∧ ∃ fn, Go.Proofs.Try.prog.funcs[102]? = some fn ∧ cFunc Go.Proofs.Try.prog fn = some k102 := ⟨by kernel_rfl, Go.Proofs.Try.f102, Go.Proofs.Try.func102, by kernel_rfl⟩
theorem c104 : okFunc Go.Proofs.Try.prog 104 = true ∧ ∃ fn, Go.Proofs.Try.prog.funcs[104]? = some fn ∧ cFunc Go.Proofs.Try.prog fn = some k104 := ⟨by kernel_rfl, Go.Proofs.Try.f104, Go.Proofs.Try.func104, by kernel_rfl⟩
theorem c105 : okFunc Go.Proofs.Try.prog 105 = true ∧ ∃ fn, Go.Proofs.Try.prog.funcs[105]? = some fn ∧ cFunc Go.Proofs.Try.prog fn = some k105 := ⟨by kernel_rfl, Go.Proofs.Try.f105, Go.Proofs.Try.func105, by kernel_rfl⟩
theorem c106 : okFunc Go.Proofs.Try.prog 106 = true ∧ ∃ fn, Go.Proofs.Try.prog.funcs[106]? = some fn ∧ cFunc Go.Proofs.Try.prog fn = some k106 := ⟨by kernel_rfl, Go.Proofs.Try.f106, Go.Proofs.Try.func106, by kernel_rfl⟩
theorem c125 : okFunc Go.Proofs.Try.prog 125 = true ∧ ∃ fn, Go.Proofs.Try.prog.funcs[125]? = some fn ∧ cFunc Go.Proofs.Try.prog fn = some k125 := ⟨by kernel_rfl, Go.Proofs.Try.f125, Go.Proofs.Try.func125, by kernel_rfl⟩
theorem c126 : okFunc Go.Proofs.Try.prog 126 = true ∧ ∃ fn, Go.Proofs.Try.prog.funcs[126]? = some fn ∧ cFunc Go.Proofs.Try.prog fn = some k126 := ⟨by kernel_rfl, Go.Proofs.Try.f126, Go.Proofs.Try.func126, by kernel_rfl⟩
theorem c130 : okFunc Go.Proofs.Try.prog 130 = true ∧ ∃ fn, Go.Proofs.Try.prog.funcs[130]? = some fn ∧ cFunc Go.Proofs.Try.prog fn = some k130 := ⟨by kernel_rfl, Go.Proofs.Try.f130, Go.Proofs.Try.func130, by kernel_rfl⟩
theorem c22 : okFunc Go.Proofs.Try.prog 22 = true ∧ ∃ fn, Go.Proofs.Try.prog.funcs[22]? = some fn ∧ cFunc Go.Proofs.Try.prog fn = some k22 := ⟨by kernel_rfl, Go.Proofs.Try.f22, Go.Proofs.Try.func22, by kernel_rfl⟩
theorem c23 : okFunc Go.Proofs.Try.prog 23 = true ∧ ∃ fn, Go.Proofs.Try.prog.funcs[23]? = some fn ∧ cFunc Go.Proofs.Try.prog fn = some k23 := ⟨by kernel_rfl, Go.Proofs.Try.f23, Go.Proofs.Try.func23, by kernel_rfl⟩
theorem c24 : okFunc Go.Proofs.Try.prog 24 = true ∧ ∃ fn, Go.Proofs.Try.prog.funcs[24]? = some fn ∧ cFunc Go.Proofs.Try.prog fn = some k24 := ⟨by kernel_rfl, Go.Proofs.Try.f24, Go.Proofs.Try.func24, by kernel_rfl⟩
theorem c25 : okFunc Go.Proofs.Try.prog 25 = true ∧ ∃ fn, Go.Proofs.Try.prog.funcs[25]? = some fn ∧ cFunc Go.Proofs.Try.prog fn = some k25 := ⟨by kernel_rfl, Go.Proofs.Try.f25, Go.Proofs.Try.func25, by kernel_rfl⟩
theorem c26 : okFunc Go.Proofs.Try.prog 26 = true ∧ ∃ fn, Go.Proofs.Try.prog.funcs[26]? = some fn ∧ cFunc Go.Proofs.Try.prog fn = some k26 := ⟨by kernel_rfl, Go.Proofs.Try.f26, Go.Proofs.Try.func26, by kernel_rfl⟩
theorem c45 : okFunc Go.Proofs.Try.prog 45 = true ∧ ∃ fn, Go.Proofs.Try.prog.funcs[45]? = some fn ∧ cFunc Go.Proofs.Try.prog fn = some k45 := ⟨by kernel_rfl, Go.Proofs.Try.f45, Go.Proofs.Try.func45, by kernel_rfl⟩
theorem c59 : okFunc Go.Proofs.Try.prog 59 = true ∧ ∃ fn, Go.Proofs.Try.prog.funcs[59]? = some fn ∧ cFunc Go.Proofs.Try.prog fn = some k59 := ⟨by kernel_rfl, Go.Proofs.Try.f59, Go.Proofs.Try.func59, by kernel_rfl⟩
theorem c60 : okFunc Go.Proofs.Try.prog 60 = true ∧ ∃ fn, Go.Proofs.Try.prog.funcs[60]? = some fn ∧ cFunc Go.Proofs.Try.prog fn = some k60 := ⟨by kernel_rfl, Go.Proofs.Try.f60, Go.Proofs.Try.func60, by kernel_rfl⟩
theorem c61 : okFunc Go.Proofs.Try.prog 61 = true ∧ ∃ fn, Go.Proofs.Try.prog.funcs[61]? = some fn ∧ cFunc Go.Proofs.Try.prog fn = some k61 := ⟨by kernel_rfl, Go.Proofs.Try.f61, Go.Proofs.Try.func61, by kernel_rfl⟩
theorem c62 : okFunc Go.Proofs.Try.prog 62 = true ∧ ∃ fn, Go.Proofs.Try.prog.funcs[62]? = some fn ∧ cFunc Go.Proofs.Try.prog fn = some k62 := ⟨by kernel_rfl, Go.Proofs.Try.f62, Go.Proofs.Try.func62, by kernel_rfl⟩
theorem c63 : okFunc Go.Proofs.Try.prog 63 = true ∧ ∃ fn, Go.Proofs.Try.prog.funcs[63]? = some fn ∧ cFunc Go.Proofs.Try.prog fn = some k63 := ⟨by kernel_rfl, Go.Proofs.Try.f63, Go.Proofs.Try.func63, by kernel_rfl⟩
theorem c64 : okFunc Go.Proofs.Try.prog 64 = true ∧ ∃ fn, Go.Proofs.Try.prog.funcs[64]? = some fn ∧ cFunc Go.Proofs.Try.prog fn = some k64 := ⟨by kernel_rfl, Go.Proofs.Try.f64, Go.Proofs.Try.func64, by kernel_rfl⟩
theorem c65 : okFunc Go.Proofs.Try.prog 65 = true ∧ ∃ fn, Go.Proofs.Try.prog.funcs[65]? = some fn ∧ cFunc Go.Proofs.Try.prog fn = some k65 := ⟨by kernel_rfl, Go.Proofs.Try.f65, Go.Proofs.Try.func65, by kernel_rfl⟩
theorem c66 : okFunc Go.Proofs.Try.prog 66 = true ∧ ∃ fn, Go.Proofs.Try.prog.funcs[66]? = some fn ∧ cFunc Go.Proofs.Try.prog fn = some k66 := ⟨by kernel_rfl, Go.Proofs.Try.f66, Go.Proofs.Try.func66, by kernel_rfl⟩
theorem c67 : okFunc Go.Proofs.Try.prog 67 = true ∧ ∃ fn, Go.Proofs.Try.prog.funcs[67]? = some fn ∧ cFunc Go.Proofs.Try.prog fn = some k67 := ⟨by kernel_rfl, Go.Proofs.Try.f67, Go.Proofs.Try.func67, by kernel_rfl⟩
theorem c68 : okFunc Go.Proofs.Try.prog 68 = true ∧ ∃ fn, Go.Proofs.Try.prog.funcs[68]? = some fn ∧ cFunc Go.Proofs.Try.prog fn = some k68 := ⟨by kernel_rfl, Go.Proofs.Try.f68, Go.Proofs.Try.func68, by kernel_rfl⟩
theorem c69 : okFunc Go.Proofs.Try.prog 69 = true ∧ ∃ fn, Go.Proofs.Try.prog.funcs[69]? = some fn ∧ cFunc Go.Proofs.Try.prog fn = some k69 := ⟨by kernel_rfl, Go.Proofs.Try.f69, Go.Proofs.Try.func69, by kernel_rfl⟩
theorem c70 : okFunc Go.Proofs.Try.prog 70 = true ∧ ∃ fn, Go.Proofs.Try.prog.funcs[70]? = some fn ∧ cFunc Go.Proofs.Try.prog fn = some k70 := ⟨by kernel_rfl, Go.Proofs.Try.f70, Go.Proofs.Try.func70, by kernel_rfl⟩
theorem c71 : okFunc Go.Proofs.Try.prog 71 = true ∧ ∃ fn, Go.Proofs.Try.prog.funcs[71]? = some fn ∧ cFunc Go.Proofs.Try.prog fn = some k71 := ⟨by kernel_rfl, Go.Proofs.Try.f71, Go.Proofs.Try.func71, by kernel_rfl⟩
theorem c72 : okFunc Go.Proofs.Try.prog 72 = true ∧ ∃ fn, Go.Proofs.Try.prog.funcs[72]? = some fn ∧ cFunc Go.Proofs.Try.prog fn = some k72 := ⟨by kernel_rfl, Go.Proofs.Try.f72, Go.Proofs.Try.func72, by kernel_rfl⟩
theorem c73 : okFunc Go.Proofs.Try.prog 73 = true ∧ ∃ fn, Go.Proofs.Try.prog.funcs[73]? = some fn ∧ cFunc Go.Proofs.Try.prog fn = some k73 := ⟨by kernel_rfl, Go.Proofs.Try.f73, Go.Proofs.Try.func73, by kernel_rfl⟩
theorem c74 : okFunc Go.Proofs.Try.prog 74 = true ∧ ∃ fn, Go.Proofs.Try.prog.funcs[74]? = some fn ∧ cFunc Go.Proofs.Try.prog fn = some k74 := ⟨by kernel_rfl, Go.Proofs.Try.f74, Go.Proofs.Try.func74, by kernel_rfl⟩
theorem c87 : okFunc Go.Proofs.Try.prog 87 = true ∧ ∃ fn, Go.Proofs.Try.prog.funcs[87]? = some fn ∧ cFunc Go.Proofs.Try.prog fn = some k87 := ⟨by kernel_rfl, Go.Proofs.Try.f87, Go.Proofs.Try.func87, by kernel_rfl⟩
theorem c92 : okFunc Go.Proofs.Try.prog 92 = true ∧ ∃ fn, Go.Proofs.Try.prog.funcs[92]? = some fn ∧ cFunc Go.Proofs.Try.prog fn = some k92 := ⟨by kernel_rfl, Go.Proofs.Try.f92, Go.Proofs.Try.func92, by kernel_rfl⟩
theorem c107 : okFunc Go.Proofs.Try.prog 107 = true ∧ ∃ fn, Go.Proofs.Try.prog.funcs[107]? = some fn ∧ cFunc Go.Proofs.Try.prog fn = some k107 := ⟨by kernel_rfl, Go.Proofs.Try.f107, Go.Proofs.Try.func107, by kernel_rfl⟩
theorem c108 : okFunc Go.Proofs.Try.prog 108 = true ∧ ∃ fn, Go.Proofs.Try.prog.funcs[108]? = some fn ∧ cFunc Go.Proofs.Try.prog fn = some k108 := ⟨by kernel_rfl, Go.Proofs.Try.f108, Go.Proofs.Try.func108, by kernel_rfl⟩
theorem c109 : okFunc Go.Proofs.Try.prog 109 = true ∧ ∃ fn, Go.Proofs.Try.prog.funcs[109]? = some fn ∧ cFunc Go.Proofs.Try.prog fn = some k109 := ⟨by kernel_rfl, Go.Proofs.Try.f109, Go.Proofs.Try.func109, by kernel_rfl⟩
theorem c118 : okFunc Go.Proofs.Try.prog 118 = true ∧ ∃ fn, Go.Proofs.Try.prog.funcs[118]? = some fn ∧ cFunc Go.Proofs.Try.prog fn = some k118 := ⟨by kernel_rfl, Go.Proofs.Try.f118, Go.Proofs.Try.func118, by kernel_rfl⟩
theorem c38 : okFunc Go.Proofs.Try.prog 38 = true ∧ ∃ fn, Go.Proofs.Try.prog.funcs[38]? = some fn ∧ cFunc Go.Proofs.Try.prog fn = some k38 := ⟨by kernel_rfl, Go.Proofs.Try.f38, Go.Proofs.Try.func38, by kernel_rfl⟩
theorem c88 : okFunc Go.Proofs.Try.prog 88 = true ∧ ∃ fn, Go.Proofs.Try.prog.funcs[88]? = some fn ∧ cFunc Go.Proofs.Try.prog fn = some k88 := ⟨by kernel_rfl, Go.Proofs.Try.f88, Go.Proofs.Try.func88, by kernel_rfl⟩
theorem c89 : okFunc Go.Proofs.Try.prog 89 = true ∧ ∃ fn, Go.Proofs.Try.prog.funcs[89]? = some fn ∧ cFunc Go.Proofs.Try.prog fn = some k89 := ⟨by kernel_rfl, Go.Proofs.Try.f89, Go.Proofs.Try.func89, by kernel_rfl⟩
theorem c90 : okFunc Go.Proofs.Try.prog 90 = true ∧ ∃ fn, Go.Proofs.Try.prog.funcs[90]? = some fn ∧ cFunc Go.Proofs.Try.prog fn = some k90 := ⟨by kernel_rfl, Go.Proofs.Try.f90, Go.Proofs.Try.func90, by kernel_rfl⟩
theorem c111 : okFunc Go.Proofs.Try.prog 111 = true ∧ ∃ fn, Go.Proofs.Try.prog.funcs[111]? = some fn ∧ cFunc Go.Proofs.Try.prog fn = some k111 := ⟨by kernel_rfl, Go.Proofs.Try.f111, Go.Proofs.Try.func111, by kernel_rfl⟩
theorem c113 : okFunc Go.Proofs.Try.prog 113 = true ∧ ∃ fn, Go.Proofs.Try.prog.funcs[113]? = some fn ∧ cFunc Go.Proofs.Try.prog fn = some k113 := ⟨by kernel_rfl, Go.Proofs.Try.f113, Go.Proofs.Try.func113, by kernel_rfl⟩
theorem c114 : okFunc Go.Proofs.Try.prog 114 = true ∧ ∃ fn, Go.Proofs.Try.prog.funcs[114]? = some fn ∧ cFunc Go.Proofs.Try.prog fn = some k114 := ⟨by kernel_rfl, Go.Proofs.Try.f114, Go.Proofs.Try.func114, by kernel_rfl⟩
theorem c119 : okFunc Go.Proofs.Try.prog 119 = true ∧ ∃ fn, Go.Proofs.Try.prog.funcs[119]? = some fn ∧ cFunc Go.Proofs.Try.prog fn = some k119 := ⟨by kernel_rfl, Go.Proofs.Try.f119, Go.Proofs.Try.func119, by kernel_rfl⟩
theorem c120 : okFunc Go.Proofs.Try.prog 120 = true ∧ ∃ fn, Go.Proofs.Try.prog.funcs[120]? = some fn ∧ cFunc Go.Proofs.Try.prog fn = some k120 := ⟨by kernel_rfl, Go.Proofs.Try.f120, Go.Proofs.Try.func120, by kernel_rfl⟩
theorem c124 : okFunc Go.Proofs.Try.prog 124 = true ∧ ∃ fn, Go.Proofs.Try.prog.funcs[124]? = some fn ∧ cFunc Go.Proofs.Try.prog fn = some k124 := ⟨by kernel_rfl, Go.Proofs.Try.f124, Go.Proofs.Try.func124, by kernel_rfl⟩
theorem c131 : okFunc Go.Proofs.Try.prog 131 = true ∧ ∃ fn, Go.Proofs.Try.prog.funcs[131]? = some fn ∧ cFunc Go.Proofs.Try.prog fn = some k131 := ⟨by kernel_rfl, Go.Proofs.Try.f131, Go.Proofs.Try.func131, by kernel_rfl⟩
theorem c132 : okFunc Go.Proofs.Try.prog 132 = true ∧ ∃ fn, Go.Proofs.Try.prog.funcs[132]? = some fn ∧ cFunc Go.Proofs.Try.prog fn = some k132 := ⟨by kernel_rfl, Go.Proofs.Try.f132, Go.Proofs.Try.func132, by kernel_rfl⟩
theorem c137 : okFunc Go.Proofs.Try.prog 137 = true ∧ ∃ fn, Go.Proofs.Try.prog.funcs[137]? = some fn ∧ cFunc Go.Proofs.Try.prog fn = some k137 := ⟨by kernel_rfl, Go.Proofs.Try.f137, Go.Proofs.Try.func137, by kernel_rfl⟩
theorem c167 : okFunc Go.Proofs.Try.prog 167 = true ∧ ∃ fn, Go.Proofs.Try.prog.funcs[167]? = some fn ∧ cFunc Go.Proofs.Try.prog fn = some k167 := ⟨by kernel_rfl, Go.Proofs.Try.f167, Go.Proofs.Try.func167, by kernel_rfl⟩
theorem c170 : okFunc Go.Proofs.Try.prog 170 = true ∧ ∃ fn, Go.Proofs.Try.prog.funcs[170]? = some fn ∧ cFunc Go.Proofs.Try.prog fn = some k170 := ⟨by kernel_rfl, Go.Proofs.Try.f170, Go.Proofs.Try.func170, by kernel_rfl⟩
theorem c171 : okFunc Go.Proofs.Try.prog 171 = true ∧ ∃ fn, Go.Proofs.Try.prog.funcs[171]? = some fn ∧ cFunc Go.Proofs.Try.prog fn = some k171 := ⟨by kernel_rfl, Go.Proofs.Try.f171, Go.Proofs.Try.func171, by kernel_rfl⟩
theorem c172 : okFunc Go.Proofs.Try.prog 172 = true ∧ ∃ fn, Go.Proofs.Try.prog.funcs[172]? = some fn ∧ cFunc Go.Proofs.Try.prog fn = some k172 := ⟨by kernel_rfl, Go.Proofs.Try.f172, Go.Proofs.Try.func172, by kernel_rfl⟩
theorem c173 : okFunc Go.Proofs.Try.prog 173 = true ∧ ∃ fn, Go.Proofs.Try.prog.funcs[173]? = some fn ∧ cFunc Go.Proofs.Try.prog fn = some k173 := ⟨by kernel_rfl, Go.Proofs.Try.f173, Go.Proofs.Try.func173, by kernel_rfl⟩
theorem c46 : okFunc Go.Proofs.Try.prog 46 = true ∧ ∃ fn, Go.Proofs.Try.prog.funcs[46]? = some fn ∧ cFunc Go.Proofs.Try.prog fn = some k46 := ⟨by kernel_rfl, Go.Proofs.Try.f46, Go.Proofs.Try.func46, by kernel_rfl⟩
def F : FuncId → Option KFunc
  | 12 => some k12
  | 47 => some k47
  | 48 => some k48
  | 49 => some k49
  | 50 => some k50
  | 51 => some k51
  | 52 => some k52
  | 53 => some k53
  | 54 => some k54
  | 55 => some k55
  | 57 => some k57
  | 58 => some k58
  | 94 => some k94
  | 95 => some k95
  | 96 => some k96
  | 97 => some k97
  | 98 => some k98
  | 99 => some k99
  | 100 => some k100
  | 101 => some k101
  | 102 => some k102
  | 104 => some k104
  | 105 => some k105
  | 106 => some k106
  | 125 => some k125
  | 126 => some k126
  | 130 => some k130
  | 22 => some k22
  | 23 => some k23
  | 24 => some k24
  | 25 => some k25
  | 26 => some k26
  | 45 => some k45
  | 59 => some k59
  | 60 => some k60
  | 61 => some k61
  | 62 => some k62
  | 63 => some k63
  | 64 => some k64
  | 65 => some k65
  | 66 => some k66
  | 67 => some k67
  | 68 => some k68
  | 69 => some k69
  | 70 => some k70
  | 71 => some k71
  | 72 => some k72
  | 73 => some k73
  | 74 => some k74
  | 87 => some k87
  | 92 => some k92
  | 107 => some k107
  | 108 => some k108
  | 109 => some k109
  | 118 => some k118
  | 38 => some k38
  | 88 => some k88
  | 89 => some k89
  | 90 => some k90
  | 111 => some k111
  | 113 => some k113
  | 114 => some k114
  | 119 => some k119
  | 120 => some k120
  | 124 => some k124
  | 131 => some k131
  | 132 => some k132
  | 137 => some k137
  | 167 => some k167
  | 170 => some k170
  | 171 => some k171
  | 172 => some k172
  | 173 => some k173
  | 46 => some k46
  | _ => none
def M : TypeId → String → Option (FuncId × Recv)
  | 157, "Len" => some (119, .ld)
  | 157, "Less" => some (170, .ld)
  | 157, "Swap" => some (173, .ld)
  | 157, "Pop" => some (171, .as)
  | 157, "Push" => some (172, .as)
  | _, _ => none
theorem F_ok : ∀ f k, F f = some k → okFunc Go.Proofs.Try.prog f = true ∧ ∃ fn, Go.Proofs.Try.prog.funcs[f]? = some fn ∧ cFunc Go.Proofs.Try.prog fn = some k := by
  intro f k h
  unfold F at h
  split at h
  · cases h; exact c12
  · cases h; exact c47
  · cases h; exact c48
  · cases h; exact c49
  · cases h; exact c50
  · cases h; exact c51
  · cases h; exact c52
  · cases h; exact c53
  · cases h; exact c54
  · cases h; exact c55
  · cases h; exact c57
  · cases h; exact c58
  · cases h; exact c94
  · cases h; exact c95
  · cases h; exact c96
  · cases h; exact c97
  · cases h; exact c98
  · cases h; exact c99
  · cases h; exact c100
  · cases h; exact c101
  · cases h; exact c102
  · cases h; exact c104
  · cases h; exact c105
  · cases h; exact c106
  · cases h; exact c125
  · cases h; exact c126
  · cases h; exact c130
  · cases h; exact c22
  · cases h; exact c23
  · cases h; exact c24
  · cases h; exact c25
  · cases h; exact c26
  · cases h; exact c45
  · cases h; exact c59
  · cases h; exact c60
  · cases h; exact c61
  · cases h; exact c62
  · cases h; exact c63
  · cases h; exact c64
  · cases h; exact c65
  · cases h; exact c66
  · cases h; exact c67
  · cases h; exact c68
  · cases h; exact c69
  · cases h; exact c70
  · cases h; exact c71
  · cases h; exact c72
  · cases h; exact c73
  · cases h; exact c74
  · cases h; exact c87
  · cases h; exact c92
  · cases h; exact c107
  · cases h; exact c108
  · cases h; exact c109
  · cases h; exact c118
  · cases h; exact c38
  · cases h; exact c88
  · cases h; exact c89
  · cases h; exact c90
  · cases h; exact c111
  · cases h; exact c113
  · cases h; exact c114
  · cases h; exact c119
  · cases h; exact c120
  · cases h; exact c124
  · cases h; exact c131
  · cases h; exact c132
  · cases h; exact c137
  · cases h; exact c167
  · cases h; exact c170
  · cases h; exact c171
  · cases h; exact c172
  · cases h; exact c173
  · cases h; exact c46
  · cases h
theorem M_ok : ∀ t n f r, M t n = some (f, r) → methOk Go.Proofs.Try.prog t n f r = true := by
  intro t n f r h
  unfold M at h
  split at h
  · cases h; kernel_rfl
  · cases h; kernel_rfl
  · cases h; kernel_rfl
  · cases h; kernel_rfl
  · cases h; kernel_rfl
  · cases h
end Go.Proofs.Ytlboioplemlneaa.K
