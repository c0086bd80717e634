/- A part of the proof of PBatchAny, made small by a program of this work (mini.py). Conditions: none. -/
import Derived.Test.YtjgpbhodbgjggaaGreatProg
import Derived.Test.YtjgpbhodbgjggaaGreatD2
set_option linter.defProp false
set_option linter.unusedVariables false
set_option linter.unusedSimpArgs false
set_option maxRecDepth 100000
set_option maxHeartbeats 4000000
namespace Go.Proofs.YtjgpbhodbgjggaaGreat.K
open Go Go.Proofs
namespace W
def t (n:Nat):Opd:=.t n
def c (v:Value):Opd:=.c v
def n (k:Int):Value:=.int .i64 k
def N (k:Int):Value:=.int .u64 k
def T:Value:=.bool true
def F:Value:=.bool false
def Z:Value:=.slice none 0 0
def P:Value:=.pointer none
def E:Value:=.string (bs [])
def m (d s:Nat):zal:=.op (some d) none (.mv (.t s))
def M (d:Nat) (v:Value):zal:=.op (some d) none (.mv (.c v))
def v (d:Nat) (b:BinOp) (x y:Nat):zal:=.op (some d) none (.bin b (.t x) (.t y))
def u (d:Nat) (b:BinOp) (x:Nat) (y:Int):zal:=.op (some d) none (.bin b (.t x) (.c (.int .i64 y)))
def C (d:Nat) (f:FuncId) (l:List Opd):zal:=.op (some d) none (.call f l)
def p (d x y:Nat):zal:=.op (some d) none (.pick (.t x) (.c (.bool true)) (.t y))
def a (d x y:Nat):zal:=.op (some d) none (.pick (.t x) (.t y) (.c (.bool false)))
def x (d s i:Nat):zal:=.op (some d) none (.xt (.t s) i)
def l (d s:Nat):zal:=.op (some d) none (.ld (.t s))
def L (d s:Nat):zal:=.op (some d) none (.lenL (.t s))
def f (d n s:Nat):zal:=.op (some d) none (.fad n (.t s))
def e (d z s i:Nat):zal:=.op (some d) none (.iad z (.t s) (.t i))
def o (d:Nat) (k:KOp):zal:=.op (some d) none k
def O (k:KOp):zal:=.op none none k
def g (d s:Nat) (w:Bool) (k:KOp):zal:=.op (some d) (some (s,w)) k
def G (s:Nat) (w:Bool) (k:KOp):zal:=.op none (some (s,w)) k
def h (d s:Nat) (w:Bool) (x:Nat):zal:=.op (some d) (some (s,w)) (.mv (.t x))
def r (l:List zal):zah:=.reg l
def k (s:Nat) (a b:zah):zah:=.cond (.t s) a b
def q:List zah→zah
 | []=>.skip
 | [c]=>c
 |c::d::l=>.seq c (q (d::l))
theorem nf:(∀i,t i=.t i)∧(∀w,c w=.c w)∧(∀i,n i=.int .i64 i)∧(∀i,N i=.int .u64 i)∧(T=.bool true)∧(F=.bool false)∧(Z=.slice none 0 0)∧(P=.pointer none)∧(E=.string (bs []))∧
 (∀d s,m d s=.op (some d) none (.mv (.t s)))∧(∀d w,M d w=.op (some d) none (.mv (.c w)))∧(∀d b x y,v d b x y=.op (some d) none (.bin b (.t x) (.t y)))∧
 (∀d b x y,u d b x y=.op (some d) none (.bin b (.t x) (.c (.int .i64 y))))∧(∀d f l,C d f l=.op (some d) none (.call f l))∧(∀d x y,p d x y=.op (some d) none (.pick (.t x) (.c (.bool true)) (.t y)))∧
 (∀d x y,a d x y=.op (some d) none (.pick (.t x) (.t y) (.c (.bool false))))∧(∀d s i,x d s i=.op (some d) none (.xt (.t s) i))∧(∀d s,l d s=.op (some d) none (.ld (.t s)))∧(∀d s,L d s=.op (some d) none (.lenL (.t s)))∧
 (∀d n s,f d n s=.op (some d) none (.fad n (.t s)))∧(∀d z s i,e d z s i=.op (some d) none (.iad z (.t s) (.t i)))∧(∀d k,o d k=.op (some d) none k)∧(∀k,O k=.op none none k)∧(∀d s w k,g d s w k=.op (some d) (some (s,w)) k)∧
 (∀s w k,G s w k=.op none (some (s,w)) k)∧(∀d s w x,h d s w x=.op (some d) (some (s,w)) (.mv (.t x)))∧(∀l,r l=.reg l)∧(∀s a b,k s a b=.cond (.t s) a b)∧(∀c,q [c]=c)∧(∀c d l,q (c::d::l)=.seq c (q (d::l))):=by
 refine ⟨?_,?_,?_,?_,?_,?_,?_,?_,?_,?_,?_,?_,?_,?_,?_,?_,?_,?_,?_,?_,?_,?_,?_,?_,?_,?_,?_,?_,?_,?_⟩<;>intros<;>rfl
end W
section
open W
def k12:zab:=(⟨_,by first|(simp only[nf];exact rfl)|rfl⟩:{y//(⟨74,(q [r [M 4 F],q [r [C 13 37 [],o 14 (.un .not (t 13))],k 14 (q [r [M 4 F],
 .ret]) .skip],q [r [m 15 0,o 16 (.lenS (t 15)),u 17 .gtr 16 200,m 18 17,h 19 18 false 1,g 20 18 false (.lenS (t 19)),g 21 18 false (.bin .gtr (t 20)
 (c (n 60))),p 22 18 21],k 22 (q [r [M 4 T],.ret]) .skip],r [m 24 0,m 25 1,C 26 40 [(t 24),(t 25)],m 23 26,x 27 23 0,x 28 23 1,m 5 27,m 6 28],
 r [m 30 0,m 31 1,C 32 41 [(t 30),(t 31)],m 29 32,x 33 29 0,x 34 29 1,m 7 33,m 8 34],q [r [m 35 6,m 36 8,v 37 .neq 35 36,m 38 37,h 39 38 false 5,
 h 40 38 false 7,g 41 38 false (.call 44 [(t 39),(t 40)]),g 42 38 false (.un .not (t 41)),p 43 38 42],k 43 (q [r [M 4 F],.ret]) .skip],r [m 45 0,
 C 46 43 [(t 45)],m 44 46,x 47 44 0,x 48 44 1,m 9 47,m 10 48],r [m 50 0,C 51 45 [(t 50)],m 49 51,x 52 49 0,x 53 49 1,m 11 52,m 12 53],q [r [m 54 12,
 u 55 .eql 54 0,m 56 55,h 57 56 false 11,g 58 56 false (.bin .gtr (t 57) (c (N 100))),p 59 56 58],k 59 (q [r [m 60 9,u 61 .eql 60 0,m 62 61,
 h 63 62 true 10,g 64 62 true (.bin .eql (t 63) (c (n 3))),a 65 62 64,m 4 65],.ret]) .skip],r [m 66 9,m 67 11,o 68 (.cvt .i64 (t 67)),v 69 .eql 66 68,
 m 70 69,h 71 70 true 10,g 72 70 true (.bin .eql (t 71) (c (n 0))),a 73 70 72,m 4 73],.ret]),[(.t 4)]⟩:zab)=y}).1
def k15:zab:=(⟨_,by first|(simp only[nf];exact rfl)|rfl⟩:{y//(⟨46,(q [r [M 8 E,M 9 (n 0)],.block 0 (q [r [m 13 0,o 14 (.lenS (t 13)),
 u 15 .gtr 14 512,m 16 15,h 17 16 false 1,g 18 16 false (.lenS (t 17)),g 19 16 false (.bin .gtr (t 18) (c (n 256))),p 20 16 19,m 12 20],k 12
 (q [r [M 8 E,M 9 (n 5)],.ret]) (q [r [m 22 2,u 23 .lss 22 0,m 24 23,h 25 24 false 2,g 26 24 false (.bin .gtr (t 25) (c (n 1073741824))),p 27 24 26,
 m 21 27],k 21 (q [r [M 8 E,M 9 (n 1)],.ret]) .skip])]),r [m 29 0,m 30 1,m 31 3,C 32 47 [(t 29),(t 30),(t 31)],m 28 32,x 33 28 0,x 34 28 1,m 10 33,
 m 11 34],r [m 35 10,m 36 2,m 37 0,o 38 (.lenS (t 37)),m 39 0,C 40 48 [(t 39)],o 41 (.build [(.int .i64 0),(.int .i64 0),(.int .i64 0),
 (.int .u64 0)] [(0,(1,(t 35))),(1,(1,(t 36))),(2,(1,(t 38))),(3,(1,(t 40)))]),C 42 49 [(t 41)],m 43 11,C 44 50 [(t 42),(t 43)],C 45 51 [(t 44)],
 m 8 45,M 9 (n 0)],.ret]),[(.t 8),(.t 9)]⟩:zab)=y}).1
def k16:zab:=(⟨_,by first|(simp only[nf];exact rfl)|rfl⟩:{y//(⟨49,(q [r [M 6 E,M 7 (n 0)],r [m 13 0,C 14 52 [(t 13)],m 8 14],r [m 16 8,
 C 17 53 [(t 16)],m 15 17,x 18 15 0,x 19 15 1,o 9 (.alloc 79 [(.int .i64 0),(.int .i64 0),(.int .i64 0),(.int .u64 0)]),O (.stn 4 (t 9) (t 18)),
 m 10 19],q [r [m 20 10,u 21 .neq 20 0],k 21 (q [r [m 22 10,M 6 E,m 7 22],.ret]) .skip],q [r [f 23 2 9,l 24 23,m 25 2,v 26 .gtr 24 25,m 27 26,
 g 28 27 false (.fad 2 (t 9)),g 29 27 false (.ld (t 28)),g 30 27 false (.bin .gtr (t 29) (c (n 512))),p 31 27 30],k 31 (q [r [M 6 E,M 7 (n 5)],
 .ret]) .skip],r [m 33 8,o 34 (.ldn 4 (t 9)),m 35 1,C 36 54 [(t 33),(t 34),(t 35)],m 32 36,x 37 32 0,x 38 32 1,m 11 37,m 12 38],.block 0
 (q [r [m 40 12,o 41 (.un .not (t 40)),m 39 41],k 39 (q [r [M 6 E,M 7 (n 3)],.ret]) (q [r [m 43 11,f 45 3 9,l 46 45,C 44 48 [(t 43)],(.chk 46 none
 (.ld (t 45))),v 47 .neq 44 46,m 42 47],k 42 (q [r [M 6 E,M 7 (n 4)],.ret]) .skip])]),r [m 48 11,m 6 48,M 7 (n 0)],.ret]),[(.t 6),
 (.t 7)]⟩:zab)=y}).1
def k17:zab:=(⟨_,by first|(simp only[nf];exact rfl)|rfl⟩:{y//(⟨49,(q [r [M 6 E,M 7 (n 0)],r [m 14 0,C 15 18 [(t 14)],m 13 15,x 16 13 0,x 17 13 1,
 x 18 13 2,o 8 (.alloc 3 [(.int .i64 0),(.int .i64 0),(.int .i64 0)]),O (.stn 3 (t 8) (t 16)),m 9 17,m 10 18],q [r [m 19 10,u 20 .eql 19 0],k 20
 (q [r [M 6 E,M 7 (n 3)],.ret]) .skip],q [r [o 21 (.iada 3 1 (t 8) (c (n 2))),l 22 21,m 23 2,v 24 .gtr 22 23,m 25 24,g 26 25 false (.iada 3 1 (t 8)
 (c (n 2))),g 27 25 false (.ld (t 26)),g 28 25 false (.bin .gtr (t 27) (c (n 512))),p 29 25 28],k 29 (q [r [M 6 E,M 7 (n 5)],.ret]) .skip],r [m 31 0,
 m 32 10,o 33 (.slS (t 31) (some (t 32)) none),m 34 1,o 35 (.iada 3 1 (t 8) (c (n 0))),l 36 35,o 37 (.iada 3 1 (t 8) (c (n 2))),l 38 37,
 C 39 55 [(t 33),(t 34),(t 36),(t 38)],m 30 39,x 40 30 0,x 41 30 1,m 11 40,m 12 41],q [r [m 42 12,o 43 (.un .not (t 42))],k 43 (q [r [M 6 E,M 7
 (n 3)],.ret]) .skip],q [r [m 44 11,C 45 30 [(t 44)],m 46 9,v 47 .neq 45 46],k 47 (q [r [M 6 E,M 7 (n 4)],.ret]) .skip],r [m 48 11,m 6 48,M 7 (n 0)],
 .ret]),[(.t 6),(.t 7)]⟩:zab)=y}).1
def k18:zab:=(⟨_,by first|(simp only[nf];exact rfl)|rfl⟩:{y//(⟨75,(q [r [o 2 (.alloc 3 [(.int .i64 0),(.int .i64 0),(.int .i64 0)]),M 3 (N 0),M 4
 (n 0)],r [o 5 (.alloc 3 [(.int .i64 0),(.int .i64 0),(.int .i64 0)])],q [r [m 11 0,o 12 (.bin .eql (t 11) (c E)),m 13 12,h 14 13 false 0,
 g 15 13 false (.idS (t 14) (c (n 0))),g 16 13 false (.bin .gtr (t 15) (c (.int .u8 2))),p 17 13 16],k 17 (q [r [o 18 (.ldn 3 (t 5)),O (.stn 3 (t 2)
 (t 18)),M 3 (N 0),M 4 (n 0)],.ret]) .skip],r [m 20 0,o 21 (.slS (t 20) (some (c (n 1))) none),C 22 45 [(t 21)],m 19 22,x 23 19 0,x 24 19 1,m 6 23,
 m 7 24],q [r [m 25 7,u 26 .eql 25 0,m 27 26,h 28 27 false 6,g 29 27 false (.bin .gtr (t 28) (c (N 1073741824))),p 30 27 29],k 30 (q [r [o 31 (.ldn 3
 (t 5)),O (.stn 3 (t 2) (t 31)),M 3 (N 0),M 4 (n 0)],.ret]) .skip],r [m 33 0,m 34 7,o 35 (.bin .add (c (n 1)) (t 34)),o 36 (.slS (t 33) (some
 (t 35)) none),C 37 45 [(t 36)],m 32 37,x 38 32 0,x 39 32 1,m 8 38,m 9 39],r [m 40 7,o 41 (.bin .add (c (n 1)) (t 40)),m 42 9,v 43 .add 41 42,
 m 10 43],q [r [m 44 9,u 45 .eql 44 0,m 46 45,h 47 46 false 8,g 48 46 false (.bin .gtr (t 47) (c (N 1099511627776))),p 49 46 48,m 50 49,
 h 51 50 false 0,g 52 50 false (.lenS (t 51)),h 53 50 false 10,g 54 50 false (.bin .sub (t 52) (t 53)),g 55 50 false (.bin .lss (t 54) (c (n 8))),
 p 56 50 55],k 56 (q [r [o 57 (.ldn 3 (t 5)),O (.stn 3 (t 2) (t 57)),M 3 (N 0),M 4 (n 0)],.ret]) .skip],r [m 58 0,o 59 (.idS (t 58) (c (n 0))),o 60
 (.cvt .i64 (t 59)),m 61 6,o 62 (.cvt .i64 (t 61)),m 63 8,o 64 (.cvt .i64 (t 63)),o 65 (.build [(.int .i64 0),(.int .i64 0),(.int .i64 0)] [(0,(1,
 (t 60))),(1,(1,(t 62))),(2,(1,(t 64)))]),O (.stn 3 (t 5) (t 65))],r [o 66 (.ldn 3 (t 5)),m 67 0,m 68 10,m 69 10,u 70 .add 69 8,o 71 (.slS (t 67)
 (some (t 68)) (some (t 70))),m 73 10,u 74 .add 73 8,C 72 56 [(t 71)],(.chk 66 none (.ldn 3 (t 5))),O (.stn 3 (t 2) (t 66)),m 3 72,m 4 74],.ret]),
 [(.cn 2 3),(.t 3),(.t 4)]⟩:zab)=y}).1
def k20:zab:=(⟨_,by first|(simp only[nf];exact rfl)|rfl⟩:{y//(⟨15,(q [r [M 2 (n 0),M 3 (n 0)],r [m 7 0,C 8 52 [(t 7)],C 9 53 [(t 8)],m 6 9,x 10 6 0,
 x 11 6 1,o 4 (.alloc 79 [(.int .i64 0),(.int .i64 0),(.int .i64 0),(.int .u64 0)]),O (.stn 4 (t 4) (t 10)),m 5 11],r [f 12 1 4,l 13 12,m 14 5,m 2 13,
 m 3 14],.ret]),[(.t 2),(.t 3)]⟩:zab)=y}).1
def k21:zab:=(⟨_,by first|(simp only[nf];exact rfl)|rfl⟩:{y//(⟨15,(q [r [M 2 (n 0),M 3 (n 0)],r [m 7 0,C 8 52 [(t 7)],C 9 53 [(t 8)],m 6 9,x 10 6 0,
 x 11 6 1,o 4 (.alloc 79 [(.int .i64 0),(.int .i64 0),(.int .i64 0),(.int .u64 0)]),O (.stn 4 (t 4) (t 10)),m 5 11],r [f 12 2 4,l 13 12,m 14 5,m 2 13,
 m 3 14],.ret]),[(.t 2),(.t 3)]⟩:zab)=y}).1
def b30_0:zah:=(⟨_,by first|(simp only[nf];exact rfl)|rfl⟩:{y//(q [q [r [m 5 4,m 6 0,o 7 (.lenS (t 6)),v 8 .lss 5 7],k 8 .skip (.exit 0)],.block 1
 (q [r [m 11 3,m 12 0,m 13 4,o 14 (.idS (t 12) (t 13)),o 15 (.cvt .u64 (t 14)),v 16 .xor 11 15,m 3 16],r [m 17 3,o 18 (.bin .mul (t 17) (c
 (N 11400714819323198485))),m 3 18],r [m 19 3,m 20 3,o 21 (.bin .quo (t 20) (c (N 536870912))),v 22 .xor 19 21,m 3 22]]),r [m 9 4,u 10 .add 9 1,
 m 4 10]])=y}).1
def k30:zab:=(⟨_,by first|(simp only[nf];exact rfl)|rfl⟩:{y//(⟨34,(q [r [M 2 (N 0)],r [M 3 (N 7640891576956012808)],q [r [M 4 (n 0)],.block 0
 (.loop b30_0)],r [m 23 3,m 24 0,o 25 (.lenS (t 24)),o 26 (.cvt .u64 (t 25)),v 27 .add 23 26,m 3 27],r [m 28 3,o 29 (.bin .mul (t 28) (c
 (N 13787848793156543929))),m 3 29],r [m 30 3,m 31 3,o 32 (.bin .quo (t 31) (c (N 4294967296))),v 33 .xor 30 32,m 2 33],.ret]),[(.t 2)]⟩:zab)=y}).1
def k37:zab:=(⟨_,by first|(simp only[nf];exact rfl)|rfl⟩:{y//(⟨53,(q [r [M 0 F],r [o 8 (.bsl 9 2 [(.string (bs [])),(.string (bs []))] [(0,(1,(c
 (.string (bs [97,98]))))),(1,(1,(c (.string (bs [99])))))]),C 9 38 [(t 8),(c E),(c (n 0)),(c (n 1))],m 7 9,x 10 7 0,x 11 7 1,m 1 10,m 2 11],
 r [m 13 1,C 14 40 [(t 13),(c E)],m 12 14,x 15 12 0,x 16 12 1,m 3 15,m 4 16],r [m 18 1,C 19 43 [(t 18)],m 17 19,x 20 17 0,x 21 17 1,m 5 20,m 6 21],
 r [m 22 2,u 23 .eql 22 0,m 24 23,h 25 24 true 4,g 26 24 true (.bin .eql (t 25) (c (n 0))),a 27 24 26,m 28 27,h 29 28 true 6,g 30 28 true (.bin .eql
 (t 29) (c (n 0))),a 31 28 30,m 32 31,h 33 32 true 5,g 34 32 true (.bin .eql (t 33) (c (n 2))),a 35 32 34,m 36 35,h 37 36 true 3,g 38 36 true (.lenL
 (t 37)),g 39 36 true (.bin .eql (t 38) (c (n 2))),a 40 36 39,m 41 40,h 42 41 true 3,g 43 41 true (.iad 1 (t 42) (c (n 0))),g 44 41 true (.ld (t 43)),
 g 45 41 true (.bin .eql (t 44) (c (.string (bs [97,98])))),a 46 41 45,m 47 46,h 48 47 true 3,g 49 47 true (.iad 1 (t 48) (c (n 1))),g 50 47 true
 (.ld (t 49)),g 51 47 true (.bin .eql (t 50) (c (.string (bs [99])))),a 52 47 51,m 0 52],.ret]),[(.t 0)]⟩:zab)=y}).1
def b38_0:zah:=(⟨_,by first|(simp only[nf];exact rfl)|rfl⟩:{y//(q [r [v 42 .lss 41 40],k 42 .skip (.exit 0),.block 1 (q [r [e 43 1 39 41,l 44 43,
 m 14 44],r [m 45 14,o 46 (.lenS (t 45)),o 47 (.cvt .u64 (t 46)),C 48 64 [(t 12),(t 47)]]]),r [u 49 .add 41 1,m 41 49]])=y}).1
def k38:zab:=(⟨_,by first|(simp only[nf];exact rfl)|rfl⟩:{y//(⟨53,(q [r [M 8 E,M 9 (n 0)],q [r [m 15 0,L 16 15,u 17 .gtr 16 100,m 18 17,
 h 19 18 false 0,g 20 18 false (.call 70 [(t 19)]),g 21 18 false (.bin .gtr (t 20) (c (n 512))),p 22 18 21],k 22 (q [r [M 8 E,M 9 (n 5)],
 .ret]) .skip],r [m 24 0,C 25 69 [(t 24),(c E)],m 26 1,m 27 2,m 28 3,C 29 15 [(t 25),(t 26),(t 27),(t 28)],m 23 29,x 30 23 0,x 31 23 1,m 10 30,
 m 11 31],q [r [m 32 11,u 33 .neq 32 0],k 33 (q [r [m 34 11,M 8 E,m 9 34],.ret]) .skip],r [o 12 (.alloc 99 [(.slice none 0 0)])],r [m 35 0,L 36 35,
 o 37 (.cvt .u64 (t 36)),C 38 64 [(t 12),(t 37)]],q [r [m 39 0,L 40 39,M 41 (n 0)],.block 0 (.loop b38_0)],r [m 50 10,C 51 50 [(t 12),(t 50)],
 C 52 51 [(t 51)],m 8 52,M 9 (n 0)],.ret]),[(.t 8),(.t 9)]⟩:zab)=y}).1
def b40_0:zah:=(⟨_,by first|(simp only[nf];exact rfl)|rfl⟩:{y//(q [r [v 36 .lss 35 34],k 36 .skip (.exit 0),.block 1 (q [r [e 37 1 33 35,l 38 37,
 m 12 38],q [r [m 39 12,m 40 9,o 41 (.lenS (t 40)),v 42 .gtr 39 41],k 42 (q [r [M 4 Z,M 5 (n 3)],.ret]) .skip],r [m 43 10,m 44 9,m 45 12,o 46 (.slS
 (t 44) none (some (t 45))),m 49 9,m 50 12,o 51 (.slS (t 49) (some (t 50)) none),o 47 (.bsl 9 1 [(.string (bs []))] [(0,(1,(t 46)))]),o 48
 (.app 9 1 16 (t 43) (t 47)),m 10 48,m 9 51]]),r [u 52 .add 35 1,m 35 52]])=y}).1
def k40:zab:=(⟨_,by first|(simp only[nf];exact rfl)|rfl⟩:{y//(⟨56,(q [r [M 4 Z,M 5 (n 0)],r [m 13 0,C 14 52 [(t 13)],m 6 14],r [m 16 6,
 C 17 71 [(t 16)],m 15 17,x 18 15 0,x 19 15 1,m 7 18,m 8 19],q [r [m 20 8,u 21 .neq 20 0],k 21 (q [r [m 22 8,M 4 Z,m 5 22],.ret]) .skip],r [m 24 6,
 C 25 72 [(t 24)],m 26 1,C 27 16 [(t 25),(t 26),(c (n 512))],m 23 27,x 28 23 0,x 29 23 1,m 9 28,m 8 29],q [r [m 30 8,u 31 .neq 30 0],k 31
 (q [r [m 32 8,M 4 Z,m 5 32],.ret]) .skip],r [M 10 Z],q [r [m 33 7,L 34 33,M 35 (n 0)],.block 0 (.loop b40_0)],q [r [m 53 9,o 54 (.bin .neq (t 53)
 (c E))],k 54 (q [r [M 4 Z,M 5 (n 3)],.ret]) .skip],r [m 55 10,m 4 55,M 5 (n 0)],.ret]),[(.t 4),(.t 5)]⟩:zab)=y}).1
def b41_0:zah:=(⟨_,by first|(simp only[nf];exact rfl)|rfl⟩:{y//(q [q [r [m 74 16,m 75 8,L 76 75,v 77 .lss 74 76],k 77 .skip (.exit 2)],.block 3
 (q [r [m 80 15,m 81 13,m 82 8,m 83 16,e 84 1 82 83,l 85 84,o 86 (.slS (t 81) none (some (t 85))),o 87 (.bsl 9 1 [(.string (bs []))] [(0,(1,
 (t 86)))]),o 88 (.app 9 1 16 (t 80) (t 87)),m 15 88],r [m 89 13,m 90 8,m 91 16,e 92 1 90 91,l 93 92,o 94 (.slS (t 89) (some (t 93)) none),m 13 94]]),
 r [m 78 16,u 79 .add 78 1,m 16 79]])=y}).1
def b41_1:zah:=(⟨_,by first|(simp only[nf];exact rfl)|rfl⟩:{y//(q [q [r [m 31 10,m 32 6,v 33 .lss 31 32],k 33 .skip (.exit 0)],.block 1
 (q [r [m 37 0,C 38 45 [(t 37)],m 36 38,x 39 36 0,x 40 36 1,m 11 39,m 12 40],q [r [m 41 12,u 42 .eql 41 0,m 43 42,h 44 43 false 11,g 45 43 false
 (.bin .gtr (t 44) (c (N 1099511627776))),p 46 43 45],k 46 (q [r [M 4 Z,M 5 (n 3)],.ret]) .skip],r [m 47 8,m 48 11,o 49 (.cvt .i64 (t 48)),o 50
 (.bsl 3 1 [(.int .i64 0)] [(0,(1,(t 49)))]),o 51 (.app 3 1 8 (t 47) (t 50)),m 8 51],r [m 52 9,m 53 11,o 54 (.cvt .i64 (t 53)),v 55 .add 52 54,
 m 9 55],r [m 56 0,m 57 12,o 58 (.slS (t 56) (some (t 57)) none),m 0 58]]),r [m 34 10,o 35 (.bin .add (t 34) (c (N 1))),m 10 35]])=y}).1
def k41:zab:=(⟨_,by first|(simp only[nf];exact rfl)|rfl⟩:{y//(⟨96,(q [r [M 4 Z,M 5 (n 0)],r [m 18 0,C 19 45 [(t 18)],m 17 19,x 20 17 0,x 21 17 1,
 m 6 20,m 7 21],q [r [m 22 7,u 23 .eql 22 0,m 24 23,h 25 24 false 6,g 26 24 false (.bin .gtr (t 25) (c (N 100))),p 27 24 26],k 27 (q [r [M 4 Z,M 5
 (n 3)],.ret]) .skip],r [m 28 0,m 29 7,o 30 (.slS (t 28) (some (t 29)) none),m 0 30],r [M 8 Z],r [M 9 (n 0)],q [r [M 10 (N 0)],.block 0
 (.loop b41_1)],q [r [m 59 9,u 60 .gtr 59 512],k 60 (q [r [M 4 Z,M 5 (n 5)],.ret]) .skip],r [m 62 0,m 63 1,C 64 17 [(t 62),(t 63),(c (n 512))],
 m 61 64,x 65 61 0,x 66 61 1,m 13 65,m 14 66],q [r [m 67 14,u 68 .neq 67 0],k 68 (q [r [m 69 14,M 4 Z,m 5 69],.ret]) .skip],q [r [m 70 13,o 71 (.lenS
 (t 70)),m 72 9,v 73 .neq 71 72],k 73 (q [r [M 4 Z,M 5 (n 3)],.ret]) .skip],r [M 15 Z],q [r [M 16 (n 0)],.block 2 (.loop b41_0)],r [m 95 15,m 4 95,
 M 5 (n 0)],.ret]),[(.t 4),(.t 5)]⟩:zab)=y}).1
def k43:zab:=(⟨_,by first|(simp only[nf];exact rfl)|rfl⟩:{y//(⟨13,(q [r [M 2 (n 0),M 3 (n 0)],r [m 6 0,C 7 52 [(t 6)],m 4 7],r [m 8 4,C 9 60 [(t 8),
 (c (n 100))],m 5 9],q [r [m 10 4,C 11 61 [(t 10)]],k 11 (q [r [M 2 (n 0),M 3 (n 3)],.ret]) .skip],r [m 12 5,m 2 12,M 3 (n 0)],.ret]),[(.t 2),
 (.t 3)]⟩:zab)=y}).1
def b44_0:zah:=(⟨_,by first|(simp only[nf];exact rfl)|rfl⟩:{y//(q [r [v 14 .lss 13 12],k 14 .skip (.exit 0),.block 1 (q [r [m 15 13,m 5 15],
 r [m 16 0,m 17 5,e 18 1 16 17,l 19 18,m 20 1,m 21 5,e 22 1 20 21,l 23 22,v 24 .neq 19 23],k 24 (q [r [M 4 F],.ret]) .skip]),r [u 25 .add 13 1,
 m 13 25]])=y}).1
def k44:zab:=(⟨_,by first|(simp only[nf];exact rfl)|rfl⟩:{y//(⟨26,(q [r [M 4 F],q [r [m 6 0,L 7 6,m 8 1,L 9 8,v 10 .neq 7 9],k 10 (q [r [M 4 F],
 .ret]) .skip],q [r [m 11 0,L 12 11,M 13 (n 0)],.block 0 (.loop b44_0)],r [M 4 T],.ret]),[(.t 4)]⟩:zab)=y}).1
def b45_1:zah:=(⟨_,by first|(simp only[nf];exact rfl)|rfl⟩:{y//(q [q [r [m 7 4,m 8 0,o 9 (.lenS (t 8)),v 10 .lss 7 9,m 11 10,h 12 11 true 0,
 h 13 11 true 4,g 14 11 true (.idS (t 12) (t 13)),g 15 11 true (.bin .geq (t 14) (c (.int .u8 128))),a 16 11 15],k 16 .skip (.exit 0)],.block 1
 (r [m 17 4,u 18 .add 17 1,m 4 18])])=y}).1
def b45_0:zah:=(⟨_,by first|(simp only[nf];exact rfl)|rfl⟩:{y//(q [q [r [m 28 6,u 29 .geq 28 0],k 29 .skip (.exit 2)],.block 3 (q [q [r [m 32 5,
 o 33 (.bin .gtr (t 32) (c (N 144115188075855871)))],k 33 (q [r [M 2 (N 0),M 3 (n 0)],.ret]) .skip],r [m 34 5,o 35 (.bin .mul (t 34) (c (N 128))),
 m 36 0,m 37 6,o 38 (.idS (t 36) (t 37)),o 39 (.bin .rem (t 38) (c (.int .u8 128))),o 40 (.cvt .u64 (t 39)),v 41 .add 35 40,m 5 41]]),r [m 30 6,
 u 31 .sub 30 1,m 6 31]])=y}).1
def k45:zab:=(⟨_,by first|(simp only[nf];exact rfl)|rfl⟩:{y//(⟨52,(q [r [M 2 (N 0),M 3 (n 0)],r [M 4 (n 0)],.block 0 (.loop b45_1),q [r [m 19 4,
 m 20 0,o 21 (.lenS (t 20)),v 22 .eql 19 21,m 23 22,h 24 23 false 4,g 25 23 false (.bin .gtr (t 24) (c (n 9))),p 26 23 25],k 26 (q [r [M 2 (N 0),M 3
 (n 0)],.ret]) .skip],r [M 5 (N 0)],q [r [m 27 4,m 6 27],.block 2 (.loop b45_0)],q [r [m 42 5,m 44 0,m 45 4,u 46 .add 45 1,o 47 (.slS (t 44) none
 (some (t 46))),C 43 57 [(t 42)],v 48 .neq 43 47],k 48 (q [r [M 2 (N 0),M 3 (n 0)],.ret]) .skip],r [m 49 5,m 50 4,u 51 .add 50 1,m 2 49,m 3 51],
 .ret]),[(.t 2),(.t 3)]⟩:zab)=y}).1
def k47:zab:=(⟨_,by first|(simp only[nf];exact rfl)|rfl⟩:{y//(⟨41,(q [r [M 6 (n 0),M 7 E],q [r [m 12 0,C 13 73 [(t 12)]],k 13 (q [r [m 14 0,o 15
 (.slS (t 14) none (some (c (n 1)))),M 6 (n 1),m 7 15],.ret]) .skip],r [m 16 1,m 17 0,m 18 2,C 19 74 [(t 16),(t 17),(t 18)],m 8 19],r [m 21 8,
 C 22 75 [(t 21)],m 20 22,x 23 20 0,x 24 20 1,m 9 23,m 10 24],q [r [m 25 0,m 26 8,C 27 77 [(t 25),(t 26)],C 28 76 [(t 27)],m 29 9,v 30 .add 28 29,
 m 11 30],r [m 31 10,m 32 31,h 33 32 true 11,g 34 32 true (.lenS (t 33)),h 35 32 true 0,g 36 32 true (.lenS (t 35)),g 37 32 true (.bin .lss (t 34)
 (t 36)),a 38 32 37],k 38 (q [r [m 39 11,M 6 (n 2),m 7 39],.ret]) .skip],r [m 40 0,M 6 (n 0),m 7 40],.ret]),[(.t 6),(.t 7)]⟩:zab)=y}).1
def k48:zab:=(⟨_,by first|(simp only[nf];exact rfl)|rfl⟩:{y//(⟨7,(q [r [M 2 (N 0)],r [C 3 78 [],m 4 0,C 5 79 [(t 3),(t 4)],C 6 80 [(t 5)],m 2 6],
 .ret]),[(.t 2)]⟩:zab)=y}).1
def k49:zab:=(⟨_,by first|(simp only[nf];exact rfl)|rfl⟩:{y//(⟨19,(q [r [o 1 (.box 79 (t 0)),M 2 P],r [o 3 (.alloc 99 [(.slice none 0 0)])],
 r [f 4 0 1,l 5 4,o 6 (.cvt .u64 (t 5)),f 8 1 1,l 9 8,o 10 (.cvt .u64 (t 9)),f 12 2 1,l 13 12,o 14 (.cvt .u64 (t 13)),f 16 3 1,l 17 16,C 7 81 [(t 3),
 (t 6),(c (n 1))],(.chk 9 none (.ld (t 8))),(.chk 13 none (.ld (t 12))),(.chk 17 none (.ld (t 16))),C 11 64 [(t 7),(t 10)],(.chk 13 none (.ld
 (t 12))),(.chk 17 none (.ld (t 16))),C 15 64 [(t 11),(t 14)],(.chk 17 none (.ld (t 16))),C 18 81 [(t 15),(t 17),(c (n 8))],m 2 18],.ret]),
 [(.t 2)]⟩:zab)=y}).1
def k50:zab:=(⟨_,by first|(simp only[nf];exact rfl)|rfl⟩:{y//(⟨17,(q [r [M 4 P],q [r [m 5 0,o 6 (.eqv .ptr false (t 5) (c P))],k 6 (q [r [M 4 P],
 .ret]) .skip],r [m 7 0,m 8 0,o 9 (.nck (t 8)),f 10 0 9,l 11 10,m 12 1,o 13 (.appS 5 (t 11) (t 12)),o 14 (.nck (t 7)),f 15 0 14,O (.st (t 15)
 (t 13))],r [m 16 0,m 4 16],.ret]),[(.t 4)]⟩:zab)=y}).1
def k51:zab:=(⟨_,by first|(simp only[nf];exact rfl)|rfl⟩:{y//(⟨10,(q [r [M 2 E],q [r [m 3 0,o 4 (.eqv .ptr false (t 3) (c P))],k 4 (q [r [M 2 E],
 .ret]) .skip],r [m 5 0,o 6 (.nck (t 5)),f 7 0 6,l 8 7,o 9 (.b2s 5 (t 8)),m 2 9],.ret]),[(.t 2)]⟩:zab)=y}).1
def k52:zab:=(⟨_,by first|(simp only[nf];exact rfl)|rfl⟩:{y//(⟨6,(q [r [M 2 P],r [m 3 0,o 4 (.build [(.string (bs [])),(.bool false)] [(0,(1,
 (t 3)))]),o 5 (.box 119 (t 4)),m 2 5],.ret]),[(.t 2)]⟩:zab)=y}).1
def k53:zab:=(⟨_,by first|(simp only[nf];exact rfl)|rfl⟩:{y//(⟨25,(q [r [o 2 (.alloc 79 [(.int .i64 0),(.int .i64 0),(.int .i64 0),(.int .u64 0)]),
 M 3 (n 0)],r [m 5 0,C 6 82 [(t 5),(c (n 1))],o 7 (.cvt .i64 (t 6)),m 8 0,C 9 60 [(t 8),(c (n 1073741824))],m 10 0,C 11 60 [(t 10),(c
 (n 1099511627776))],o 12 (.build [(.int .i64 0),(.int .i64 0),(.int .i64 0),(.int .u64 0)] [(0,(1,(t 7))),(1,(1,(t 9))),(2,(1,(t 11)))]),o 4
 (.alloc 79 [(.int .i64 0),(.int .i64 0),(.int .i64 0),(.int .u64 0)]),O (.stn 4 (t 4) (t 12))],r [m 13 0,C 14 82 [(t 13),(c (n 8))],f 15 3 4,O (.st
 (t 15) (t 14))],q [r [m 16 0,C 17 61 [(t 16)],m 18 17,g 19 18 false (.fad 0 (t 4)),g 20 18 false (.ld (t 19)),g 21 18 false (.bin .gtr (t 20) (c
 (n 2))),p 22 18 21],k 22 (q [r [o 23 (.build [(.int .i64 0),(.int .i64 0),(.int .i64 0),(.int .u64 0)] []),O (.stn 4 (t 2) (t 23)),M 3 (n 3)],
 .ret]) .skip],r [o 24 (.ldn 4 (t 4)),O (.stn 4 (t 2) (t 24)),M 3 (n 0)],.ret]),[(.cn 2 4),(.t 3)]⟩:zab)=y}).1
def k54:zab:=(⟨_,by first|(simp only[nf];exact rfl)|rfl⟩:{y//(⟨38,(q [r [o 4 (.box 79 (t 1)),M 6 E,M 7 F],q [r [f 10 0 4,l 11 10],.block 0
 (q [r [u 13 .eql 11 0,m 12 13],k 12 (q [r [m 14 0,f 15 2 4,l 16 15,C 17 83 [(t 14),(t 16)],m 8 17],r [m 18 8,m 19 0,C 20 63 [(t 19)],m 6 18,m 7 20],
 .ret]) (q [r [u 22 .eql 11 1,m 21 22],k 21 (q [r [m 23 0,C 24 83 [(t 23),(c (n 1))],m 9 24],r [m 25 9,f 26 2 4,l 27 26,C 28 84 [(t 25),(t 27)],
 m 29 0,C 30 63 [(t 29)],m 6 28,m 7 30],.ret]) .skip])])],r [m 31 0,m 32 2,f 33 2 4,l 34 33,C 35 85 [(t 31),(t 32),(t 34)],x 36 35 0,x 37 35 1,m 6 36,
 m 7 37],.ret]),[(.t 6),(.t 7)]⟩:zab)=y}).1
def b55_0:zah:=(⟨_,by first|(simp only[nf];exact rfl)|rfl⟩:{y//(q [q [r [m 28 11,m 29 3,v 30 .lss 28 29,m 31 30,h 32 31 true 0,g 33 31 true (.lenS
 (t 32)),g 34 31 true (.bin .eql (t 33) (c (n 1))),a 35 31 34],k 35 .skip (.exit 1)],.block 2 (r [m 38 10,m 39 0,v 40 .add 38 39,m 10 40]),r [m 36 11,
 u 37 .add 36 1,m 11 37]])=y}).1
def k55:zab:=(⟨_,by first|(simp only[nf];exact rfl)|rfl⟩:{y//(⟨88,(q [r [M 8 E,M 9 F],q [r [m 18 2],.block 0 (q [r [u 20 .eql 18 0,m 19 20],k 19
 (q [r [m 21 0,m 22 0,o 23 (.lenS (t 22)),m 24 3,v 25 .eql 23 24,m 8 21,m 9 25],.ret]) (q [r [u 27 .eql 18 1,m 26 27],k 26 (q [r [M 10 E],q [r [M 11
 (n 0)],.block 1 (.loop b55_0)],r [m 41 10,m 42 0,o 43 (.lenS (t 42)),u 44 .eql 43 1,m 8 41,m 9 44],.ret]) .skip])])],r [m 46 0,m 47 3,
 C 48 86 [(t 46),(t 47)],m 45 48,x 49 45 0,x 50 45 1,m 12 49,m 13 50],q [r [m 51 13,u 52 .eql 51 0],k 52 (q [r [M 8 E,M 9 F],.ret]) .skip],r [m 54 0,
 m 55 13,o 56 (.slS (t 54) (some (t 55)) none),m 57 3,C 58 87 [(t 56),(t 57)],m 53 58,x 59 53 0,x 60 53 1,m 14 59,m 15 60],q [r [m 61 15,
 u 62 .eql 61 0,m 63 62,h 64 63 false 13,h 65 63 false 15,g 66 63 false (.bin .add (t 64) (t 65)),h 67 63 false 0,g 68 63 false (.lenS (t 67)),
 g 69 63 false (.bin .neq (t 66) (t 68)),p 70 63 69],k 70 (q [r [M 8 E,M 9 F],.ret]) .skip],r [m 72 1,m 73 12,m 74 14,m 75 3,C 76 88 [(t 72),(t 73),
 (t 74),(t 75)],m 71 76,x 77 71 0,x 78 71 1,m 16 77,m 17 78],r [m 79 16,m 80 17,u 81 .eql 80 0,m 82 81,h 83 82 true 16,g 84 82 true (.lenS (t 83)),
 h 85 82 true 3,g 86 82 true (.bin .eql (t 84) (t 85)),a 87 82 86,m 8 79,m 9 87],.ret]),[(.t 8),(.t 9)]⟩:zab)=y}).1
def b56_0:zah:=(⟨_,by first|(simp only[nf];exact rfl)|rfl⟩:{y//(q [q [r [m 8 4,u 9 .geq 8 0],k 9 .skip (.exit 0)],.block 1 (r [m 12 3,o 13
 (.bin .mul (t 12) (c (N 256))),m 14 0,m 15 4,o 16 (.idS (t 14) (t 15)),o 17 (.cvt .u64 (t 16)),v 18 .add 13 17,m 3 18]),r [m 10 4,u 11 .sub 10 1,
 m 4 11]])=y}).1
def k56:zab:=(⟨_,by first|(simp only[nf];exact rfl)|rfl⟩:{y//(⟨20,(q [r [M 2 (N 0)],r [M 3 (N 0)],q [r [m 5 0,o 6 (.lenS (t 5)),u 7 .sub 6 1,m 4 7],
 .block 0 (.loop b56_0)],r [m 19 3,m 2 19],.ret]),[(.t 2)]⟩:zab)=y}).1
def b57_0:zah:=(⟨_,by first|(simp only[nf];exact rfl)|rfl⟩:{y//(q [q [r [m 4 0,o 5 (.bin .geq (t 4) (c (N 128)))],k 5 .skip (.exit 0)],.block 1
 (q [r [m 6 3,m 7 0,o 8 (.bin .rem (t 7) (c (N 128))),o 9 (.bin .add (t 8) (c (N 128))),o 10 (.cvt .u8 (t 9)),o 11 (.bsl 5 1 [(.int .u8 0)] [(0,(1,
 (t 10)))]),o 12 (.b2s 5 (t 11)),v 13 .add 6 12,m 3 13],r [m 14 0,o 15 (.bin .quo (t 14) (c (N 128))),m 0 15]])])=y}).1
def k57:zab:=(⟨_,by first|(simp only[nf];exact rfl)|rfl⟩:{y//(⟨22,(q [r [M 2 E],r [M 3 E],.block 0 (.loop b57_0),r [m 16 3,m 17 0,o 18 (.cvt .u8
 (t 17)),o 19 (.bsl 5 1 [(.int .u8 0)] [(0,(1,(t 18)))]),o 20 (.b2s 5 (t 19)),v 21 .add 16 20,m 2 21],.ret]),[(.t 2)]⟩:zab)=y}).1
def k58:zab:=(⟨_,by first|(simp only[nf];exact rfl)|rfl⟩:{y//(⟨9,(q [r [M 2 E],r [m 3 0,o 4 (.lenS (t 3)),o 5 (.cvt .u64 (t 4)),C 6 57 [(t 5)],
 m 7 0,v 8 .add 6 7,m 2 8],.ret]),[(.t 2)]⟩:zab)=y}).1
def k60:zab:=(⟨_,by first|(simp only[nf];exact rfl)|rfl⟩:{y//(⟨24,(q [r [M 4 (n 0)],r [m 6 0,C 7 89 [(t 6)],m 5 7],q [r [m 8 0,C 9 61 [(t 8)],
 m 10 9,h 11 10 false 1,g 12 10 false (.bin .lss (t 11) (c (n 0))),p 13 10 12,m 14 13,h 15 14 false 5,h 16 14 false 1,g 17 14 false (.cvt .u64
 (t 16)),g 18 14 false (.bin .gtr (t 15) (t 17)),p 19 14 18],k 19 (q [r [m 20 0,C 21 90 [(t 20)]],r [M 4 (n 0)],.ret]) .skip],r [m 22 5,o 23
 (.cvt .i64 (t 22)),m 4 23],.ret]),[(.t 4)]⟩:zab)=y}).1
def k61:zab:=(⟨_,by first|(simp only[nf];exact rfl)|rfl⟩:{y//(⟨11,(q [r [M 2 F],r [m 3 0,o 4 (.eqv .ptr false (t 3) (c P)),m 5 4,h 6 5 false 0,
 g 7 5 false (.nck (t 6)),g 8 5 false (.fad 1 (t 7)),g 9 5 false (.ld (t 8)),p 10 5 9,m 2 10],.ret]),[(.t 2)]⟩:zab)=y}).1
def k63:zab:=(⟨_,by first|(simp only[nf];exact rfl)|rfl⟩:{y//(⟨13,(q [r [M 2 F],r [m 3 0,C 4 61 [(t 3)],o 5 (.un .not (t 4)),m 6 5,h 7 6 true 0,
 g 8 6 true (.nck (t 7)),g 9 6 true (.fad 0 (t 8)),g 10 6 true (.ld (t 9)),g 11 6 true (.bin .eql (t 10) (c E)),a 12 6 11,m 2 12],.ret]),
 [(.t 2)]⟩:zab)=y}).1
def b64_0:zah:=(⟨_,by first|(simp only[nf];exact rfl)|rfl⟩:{y//(q [q [r [m 7 1,o 8 (.bin .gtr (t 7) (c (N 127)))],k 8 .skip (.exit 0)],.block 1
 (q [r [m 9 0,m 10 0,o 11 (.nck (t 10)),f 12 0 11,l 13 12,m 14 1,o 15 (.cvt .u8 (t 14)),o 16 (.bin .or (t 15) (c (.int .u8 128))),o 17
 (.bsl 5 1 [(.int .u8 0)] [(0,(1,(t 16)))]),o 18 (.app 5 1 1 (t 13) (t 17)),o 19 (.nck (t 9)),f 20 0 19,O (.st (t 20) (t 18))],r [m 21 1,o 22
 (.bin .shr (t 21) (c (N 7))),m 1 22]])])=y}).1
def k64:zab:=(⟨_,by first|(simp only[nf];exact rfl)|rfl⟩:{y//(⟨35,(q [r [M 4 P],q [r [m 5 0,o 6 (.eqv .ptr false (t 5) (c P))],k 6 (q [r [M 4 P],
 .ret]) .skip],.block 0 (.loop b64_0),r [m 23 0,m 24 0,o 25 (.nck (t 24)),f 26 0 25,l 27 26,m 28 1,o 29 (.cvt .u8 (t 28)),o 30
 (.bsl 5 1 [(.int .u8 0)] [(0,(1,(t 29)))]),o 31 (.app 5 1 1 (t 27) (t 30)),o 32 (.nck (t 23)),f 33 0 32,O (.st (t 33) (t 31))],r [m 34 0,m 4 34],
 .ret]),[(.t 4)]⟩:zab)=y}).1
def k65:zab:=(⟨_,by first|(simp only[nf];exact rfl)|rfl⟩:{y//(⟨12,(q [r [M 4 P],r [m 5 0,m 6 1,o 7 (.lenS (t 6)),o 8 (.cvt .u64 (t 7)),
 C 9 64 [(t 5),(t 8)],m 10 1,C 11 50 [(t 9),(t 10)],m 4 11],.ret]),[(.t 4)]⟩:zab)=y}).1
def b70_0:zah:=(⟨_,by first|(simp only[nf];exact rfl)|rfl⟩:{y//(q [r [v 9 .lss 8 7],k 9 .skip (.exit 0),.block 1 (q [r [e 10 1 6 8,l 11 10,m 5 11],
 r [m 12 3,m 13 5,o 14 (.lenS (t 13)),v 15 .add 12 14,m 3 15]]),r [u 16 .add 8 1,m 8 16]])=y}).1
def k70:zab:=(⟨_,by first|(simp only[nf];exact rfl)|rfl⟩:{y//(⟨18,(q [r [M 2 (n 0)],r [M 3 (n 0)],q [r [m 6 0,L 7 6,M 8 (n 0)],.block 0
 (.loop b70_0)],r [m 17 3,m 2 17],.ret]),[(.t 2)]⟩:zab)=y}).1
def b71_0:zah:=(⟨_,by first|(simp only[nf];exact rfl)|rfl⟩:{y//(q [r [v 14 .lss 13 12],k 14 .skip (.exit 0),.block 1 (q [r [m 15 0,C 16 60 [(t 15),
 (c (n 1099511627776))],m 7 16],r [m 17 5,m 18 7,o 19 (.bsl 3 1 [(.int .i64 0)] [(0,(1,(t 18)))]),o 20 (.app 3 1 8 (t 17) (t 19)),m 5 20],r [m 21 6,
 m 22 7,v 23 .add 21 22,m 6 23]]),r [u 24 .add 13 1,m 13 24]])=y}).1
def k71:zab:=(⟨_,by first|(simp only[nf];exact rfl)|rfl⟩:{y//(⟨32,(q [r [M 2 Z,M 3 (n 0)],r [m 8 0,C 9 60 [(t 8),(c (n 100))],m 4 9],q [r [m 10 0,
 C 11 61 [(t 10)]],k 11 (q [r [M 2 Z,M 3 (n 3)],.ret]) .skip],r [M 5 Z],r [M 6 (n 0)],q [r [m 12 4,M 13 (n 0)],.block 0 (.loop b71_0)],.block 2
 (q [r [m 26 0,C 27 61 [(t 26)],m 25 27],k 25 (q [r [M 2 Z,M 3 (n 3)],.ret]) (q [r [m 29 6,u 30 .gtr 29 512,m 28 30],k 28 (q [r [M 2 Z,M 3 (n 5)],
 .ret]) .skip])]),r [m 31 5,m 2 31,M 3 (n 0)],.ret]),[(.t 2),(.t 3)]⟩:zab)=y}).1
def k72:zab:=(⟨_,by first|(simp only[nf];exact rfl)|rfl⟩:{y//(⟨12,(q [r [M 2 E],q [r [m 3 0,C 4 61 [(t 3)]],k 4 (q [r [M 2 E],.ret]) .skip],
 r [m 5 0,m 6 0,o 7 (.nck (t 6)),f 8 0 7,l 9 8,o 10 (.lenS (t 9)),C 11 83 [(t 5),(t 10)],m 2 11],.ret]),[(.t 2)]⟩:zab)=y}).1
def k73:zab:=(⟨_,by first|(simp only[nf];exact rfl)|rfl⟩:{y//(⟨14,(q [r [M 2 F],r [m 3 0,o 4 (.bin .neq (t 3) (c E)),m 5 4,h 6 5 true 0,
 h 7 5 true 0,g 8 5 true (.slS (t 7) none (some (c (n 1)))),h 9 5 true 0,g 10 5 true (.lenS (t 9)),g 11 5 true (.call 84 [(t 8),(t 10)]),g 12 5 true
 (.bin .eql (t 6) (t 11)),a 13 5 12,m 2 13],.ret]),[(.t 2)]⟩:zab)=y}).1
def b74_1:zah:=(⟨_,by first|(simp only[nf];exact rfl)|rfl⟩:{y//(q [r [v 37 .lss 36 35],k 37 .skip (.exit 0),.block 1 (q [r [m 38 36,m 10 38],
 r [m 39 9,m 40 10,C 41 105 [(t 39),(t 40)]]]),r [u 42 .add 36 1,m 36 42]])=y}).1
def b74_2:zah:=(⟨_,by first|(simp only[nf];exact rfl)|rfl⟩:{y//(q [r [v 82 .lss 81 80],k 82 .skip (.exit 4),.block 5 (q [r [m 83 9,m 84 13,
 C 85 105 [(t 83),(t 84)]],r [m 86 13,u 87 .add 86 1,m 13 87]]),r [u 88 .add 81 1,m 81 88]])=y}).1
def b74_0:zah:=(⟨_,by first|(simp only[nf];exact rfl)|rfl⟩:{y//(q [q [r [m 45 13,m 46 8,o 47 (.lenS (t 46)),v 48 .lss 45 47],k 48 .skip (.exit 2)],
 .block 3 (q [r [m 50 9,m 51 13,m 52 7,C 53 106 [(t 50),(t 51),(t 52)],m 49 53,x 54 49 0,x 55 49 1,m 14 54,m 15 55],r [m 56 9,m 57 13,
 C 58 105 [(t 56),(t 57)]],q [r [m 59 15,u 60 .eql 59 0,m 61 60,h 62 61 false 9,h 63 61 false 13,h 64 61 false 7,h 65 61 false 15,h 66 61 false 2,
 g 67 61 false (.call 107 [(t 62),(t 63),(t 64),(t 65),(t 66)]),p 68 61 67],k 68 (q [r [m 69 12,u 70 .add 69 1,m 12 70],r [m 71 13,u 72 .add 71 1,
 m 13 72],.exit 3]) .skip],r [m 73 11,m 74 12,m 75 15,m 76 14,o 77 (.build [(.int .i64 0),(.int .i64 0),(.int .i64 0)] [(0,(1,(t 74))),(1,(1,(t 75))),
 (2,(1,(t 76)))]),o 78 (.bsl 155 1 [(.int .i64 0),(.int .i64 0),(.int .i64 0)] [(0,(3,(t 77)))]),o 79 (.app 155 3 24 (t 73) (t 78)),m 11 79],r [M 12
 (n 0)],r [m 80 15,M 81 (n 0)],.block 4 (.loop b74_2)])])=y}).1
def k74:zab:=(⟨_,by first|(simp only[nf];exact rfl)|rfl⟩:{y//(⟨90,(q [r [M 6 Z],r [m 16 2,C 17 101 [(t 16)],m 2 17],r [m 18 2,C 19 102 [(t 18)],
 m 7 19],q [r [m 20 7,u 21 .eql 20 0],k 21 (q [r [M 6 Z],.ret]) .skip],r [m 22 0,m 24 1,m 25 1,o 26 (.lenS (t 25)),o 27 (.mn (t 26) [(c (n 600))]),
 o 28 (.slS (t 24) none (some (t 27))),C 23 103 [(t 22),(c (n 600))],m 0 23,m 1 28],r [m 29 0,m 30 1,v 31 .add 29 30,m 8 31],r [m 32 8,
 C 33 104 [(t 32)],m 9 33],q [r [m 34 0,o 35 (.lenS (t 34)),M 36 (n 0)],.block 0 (.loop b74_1)],r [M 11 Z],r [M 12 (n 0)],q [r [m 43 0,o 44 (.lenS
 (t 43)),m 13 44],.block 2 (.loop b74_0)],r [m 89 11,m 6 89],.ret]),[(.t 6)]⟩:zab)=y}).1
def b75_0:zah:=(⟨_,by first|(simp only[nf];exact rfl)|rfl⟩:{y//(q [r [u 79 .lss 78 3],k 79 .skip (.exit 4),.block 5 (q [r [o 80 (.ida 3 (t 77)
 (t 78)),m 20 80],r [m 81 20,C 82 112 [(t 81)],C 83 50 [(t 4),(t 82)]]]),r [u 84 .add 78 1,m 78 84]])=y}).1
def b75_2:zah:=(⟨_,by first|(simp only[nf];exact rfl)|rfl⟩:{y//(q [r [u 50 .lss 49 3],k 50 .skip (.exit 2),.block 3 (q [r [m 51 49,o 52 (.ida 3
 (t 48) (t 49)),m 13 51,m 14 52],r [m 54 14,C 55 110 [(t 54)],m 53 55,x 56 53 0,x 57 53 1,x 58 53 2,x 59 53 3,m 15 56,m 16 57,m 17 58,m 18 59],
 q [r [m 60 18,o 61 (.un .not (t 60))],k 61 (q [r [M 2 E,M 3 F],.ret]) .skip],r [m 62 13,m 63 13,o 64 (.iada 3 1 (t 5) (t 63)),l 65 64,m 66 15,o 67
 (.bsl 5 1 [(.int .u8 0)] [(0,(1,(t 66)))]),o 68 (.app 5 1 1 (t 65) (t 67)),o 69 (.iada 3 1 (t 5) (t 62)),O (.st (t 69) (t 68))],r [m 70 16,o 71
 (.cvt .u32 (t 70)),m 72 17,C 73 111 [(t 6),(t 71),(t 72)]]]),r [u 74 .add 49 1,m 49 74]])=y}).1
def b75_1:zah:=(⟨_,by first|(simp only[nf];exact rfl)|rfl⟩:{y//(q [r [v 36 .lss 35 34],k 36 .skip (.exit 0),.block 1 (q [r [e 37 3 33 35,o 38
 (.ldn 3 (t 37)),o 9 (.alloc 155 [(.int .i64 0),(.int .i64 0),(.int .i64 0)]),O (.stn 3 (t 9) (t 38))],r [o 40 (.ldn 3 (t 9)),o 41 (.ldn 3 (t 7)),
 C 42 109 [(t 40),(t 41)],m 39 42,x 43 39 0,x 44 39 1,x 45 39 2,o 10 (.alloc 3 [(.int .i64 0),(.int .i64 0),(.int .i64 0)]),o 11
 (.alloc 3 [(.int .i64 0),(.int .i64 0),(.int .i64 0)]),O (.stn 3 (t 10) (t 43)),O (.stn 3 (t 11) (t 44)),m 12 45],q [r [m 46 12,o 47 (.un .not
 (t 46))],k 47 (q [r [M 2 E,M 3 F],.ret]) .skip],q [r [o 48 (.ldn 3 (t 10)),M 49 (n 0)],.block 2 (.loop b75_2)],r [o 75 (.ldn 3 (t 11)),O (.stn 3
 (t 7) (t 75))]]),r [u 76 .add 35 1,m 35 76]])=y}).1
def k75:zab:=(⟨_,by first|(simp only[nf];exact rfl)|rfl⟩:{y//(⟨89,(q [r [M 2 E,M 3 F],q [r [m 21 0,L 22 21,u 23 .gtr 22 1000],k 23 (q [r [M 2 E,
 M 3 F],.ret]) .skip],r [o 4 (.alloc 99 [(.slice none 0 0)])],r [m 24 0,L 25 24,o 26 (.cvt .u64 (t 25)),C 27 64 [(t 4),(t 26)]],q [r [m 28 0,L 29 28,
 u 30 .eql 29 0],k 30 (q [r [C 31 51 [(t 4)],m 2 31,M 3 T],.ret]) .skip],r [o 5 (.alloc 95 [(.slice none 0 0),(.slice none 0 0),(.slice none 0 0)])],
 r [o 6 (.alloc 158 [(.slice none 0 0),(.int .i64 0)])],r [C 32 108 [],o 7 (.alloc 3 [(.int .i64 0),(.int .i64 0),(.int .i64 0)]),O (.stn 3 (t 7)
 (t 32))],q [r [m 33 0,L 34 33,M 35 (n 0)],.block 0 (.loop b75_1)],q [r [o 77 (.ldn 3 (t 5)),M 78 (n 0)],.block 4 (.loop b75_0)],r [C 85 113 [(t 6)],
 o 86 (.b2s 5 (t 85)),C 87 65 [(t 4),(t 86)],C 88 51 [(t 87)],m 2 88,M 3 T],.ret]),[(.t 2),(.t 3)]⟩:zab)=y}).1
def k76:zab:=(⟨_,by first|(simp only[nf];exact rfl)|rfl⟩:{y//(⟨32,(q [r [M 2 E],q [r [m 6 0,C 7 114 [(t 6)]],k 7 (q [r [m 8 0,o 9 (.lenS (t 8)),
 m 11 0,o 12 (.slS (t 11) none (some (c (n 1)))),C 10 115 [(c (n 1)),(t 9)],C 13 50 [(t 10),(t 12)],C 14 51 [(t 13)],m 2 14],.ret]) .skip],r [m 15 0,
 C 16 116 [(t 15)],m 3 16],q [r [m 18 0,C 19 117 [(t 18)],m 17 19,x 20 17 0,x 21 17 1,m 4 20,m 5 21],r [m 22 5,m 23 22,h 24 23 true 4,g 25 23 true
 (.lenS (t 24)),h 26 23 true 3,g 27 23 true (.lenS (t 26)),g 28 23 true (.bin .lss (t 25) (t 27)),a 29 23 28],k 29 (q [r [m 30 4,m 2 30],
 .ret]) .skip],r [m 31 3,m 2 31],.ret]),[(.t 2)]⟩:zab)=y}).1
def k78:zab:=(⟨_,by first|(simp only[nf];exact rfl)|rfl⟩:{y//(⟨2,(q [r [o 0 (.alloc 113 [(.int .u64 0),(.int .u64 0)])],r [o 1
 (.build [(.int .u64 0),(.int .u64 0)] [(0,(1,(c (N 7640891576956012808))))]),O (.stn 2 (t 0) (t 1))],.ret]),[(.cn 0 2)]⟩:zab)=y}).1
def b79_0:zah:=(⟨_,by first|(simp only[nf];exact rfl)|rfl⟩:{y//(q [r [v 9 .lss 8 7],k 9 .skip (.exit 0),.block 1 (q [r [m 10 8,m 5 10],r [o 11
 (.ldn 2 (t 2)),m 12 1,m 13 5,o 14 (.idS (t 12) (t 13)),C 15 118 [(t 11),(t 14)],O (.stn 2 (t 2) (t 15))]]),r [u 16 .add 8 1,m 8 16]])=y}).1
def k79:zab:=(⟨_,by first|(simp only[nf];exact rfl)|rfl⟩:{y//(⟨18,(q [r [o 2 (.box 113 (t 0)),o 4 (.alloc 113 [(.int .u64 0),(.int .u64 0)])],
 q [r [m 6 1,o 7 (.lenS (t 6)),M 8 (n 0)],.block 0 (.loop b79_0)],r [o 17 (.ldn 2 (t 2)),O (.stn 2 (t 4) (t 17))],.ret]),[(.cn 4 2)]⟩:zab)=y}).1
def k80:zab:=(⟨_,by first|(simp only[nf];exact rfl)|rfl⟩:{y//(⟨14,(q [r [o 1 (.box 113 (t 0)),M 2 (N 0)],r [f 4 0 1,l 5 4,f 6 1 1,l 7 6,
 v 8 .add 5 7,o 9 (.bin .mul (t 8) (c (N 13787848793156543929))),m 3 9],r [m 10 3,m 11 3,o 12 (.bin .shr (t 11) (c (N 32))),v 13 .xor 10 12,m 2 13],
 .ret]),[(.t 2)]⟩:zab)=y}).1
def b81_0:zah:=(⟨_,by first|(simp only[nf];exact rfl)|rfl⟩:{y//(q [r [v 12 .lss 11 10],k 12 .skip (.exit 0),.block 1 (q [r [m 13 0,m 14 0,o 15
 (.nck (t 14)),f 16 0 15,l 17 16,m 18 1,o 19 (.cvt .u8 (t 18)),o 20 (.bsl 5 1 [(.int .u8 0)] [(0,(1,(t 19)))]),o 21 (.app 5 1 1 (t 17) (t 20)),o 22
 (.nck (t 13)),f 23 0 22,O (.st (t 23) (t 21))],r [m 24 1,o 25 (.bin .shr (t 24) (c (N 8))),m 1 25]]),r [u 26 .add 11 1,m 11 26]])=y}).1
def k81:zab:=(⟨_,by first|(simp only[nf];exact rfl)|rfl⟩:{y//(⟨28,(q [r [M 6 P],q [r [m 7 0,o 8 (.eqv .ptr false (t 7) (c P))],k 8 (q [r [M 6 P],
 .ret]) .skip],q [r [m 9 2,C 10 119 [(t 9)],M 11 (n 0)],.block 0 (.loop b81_0)],r [m 27 0,m 6 27],.ret]),[(.t 6)]⟩:zab)=y}).1
def b82_0:zah:=(⟨_,by first|(simp only[nf];exact rfl)|rfl⟩:{y//(q [r [v 15 .lss 14 13],k 15 .skip (.exit 0),.block 1 (q [r [m 16 14,e 17 1 12 14,
 l 18 17,m 6 16,m 7 18],r [m 19 5,m 20 7,o 21 (.cvt .u64 (t 20)),m 22 6,o 23 (.bin .mul (c (n 8)) (t 22)),v 24 .shl 21 23,v 25 .or 19 24,m 5 25]]),
 r [u 26 .add 14 1,m 14 26]])=y}).1
def k82:zab:=(⟨_,by first|(simp only[nf];exact rfl)|rfl⟩:{y//(⟨28,(q [r [M 4 (N 0)],r [M 5 (N 0)],q [r [m 8 0,m 9 1,C 10 119 [(t 9)],C 11 83 [(t 8),
 (t 10)],o 12 (.s2b 5 (t 11)),L 13 12,M 14 (n 0)],.block 0 (.loop b82_0)],r [m 27 5,m 4 27],.ret]),[(.t 4)]⟩:zab)=y}).1
def k83:zab:=(⟨_,by first|(simp only[nf];exact rfl)|rfl⟩:{y//(⟨37,(q [r [M 4 E],r [m 6 1,o 7 (.mx (t 6) [(c (n 0))]),m 1 7],q [r [m 8 0,
 C 9 61 [(t 8)],m 10 9,h 11 10 false 0,g 12 10 false (.nck (t 11)),g 13 10 false (.fad 0 (t 12)),g 14 10 false (.ld (t 13)),g 15 10 false (.lenS
 (t 14)),h 16 10 false 1,g 17 10 false (.bin .lss (t 15) (t 16)),p 18 10 17],k 18 (q [r [m 19 0,C 20 90 [(t 19)]],r [M 4 E],.ret]) .skip],r [m 21 0,
 o 22 (.nck (t 21)),f 23 0 22,l 24 23,m 25 1,o 26 (.slS (t 24) none (some (t 25))),m 5 26],r [m 27 0,m 28 0,o 29 (.nck (t 28)),f 30 0 29,l 31 30,
 m 32 1,o 33 (.slS (t 31) (some (t 32)) none),o 34 (.nck (t 27)),f 35 0 34,O (.st (t 35) (t 33))],r [m 36 5,m 4 36],.ret]),[(.t 4)]⟩:zab)=y}).1
def k85:zab:=(⟨_,by first|(simp only[nf];exact rfl)|rfl⟩:{y//(⟨51,(q [r [M 6 E,M 7 F],r [m 14 0,m 15 2,C 16 123 [(t 14),(t 15)],m 13 16,x 17 13 0,
 x 18 13 1,m 8 17,m 9 18],q [r [m 19 9,o 20 (.un .not (t 19))],k 20 (q [r [M 6 E,M 7 F],.ret]) .skip],r [m 22 0,m 23 2,C 24 124 [(t 22),(t 23)],
 m 21 24,x 25 21 0,x 26 21 1,m 10 25,m 9 26],q [r [m 27 9,o 28 (.un .not (t 27)),m 29 28,h 30 29 false 0,g 31 29 false (.call 63 [(t 30)]),
 g 32 29 false (.un .not (t 31)),p 33 29 32],k 33 (q [r [M 6 E,M 7 F],.ret]) .skip],r [m 35 1,m 36 8,m 37 10,m 38 2,C 39 125 [(t 35),(t 36),(t 37),
 (t 38)],m 34 39,x 40 34 0,x 41 34 1,m 11 40,m 12 41],r [m 42 11,m 43 12,u 44 .eql 43 0,m 45 44,h 46 45 true 11,g 47 45 true (.lenS (t 46)),
 h 48 45 true 2,g 49 45 true (.bin .eql (t 47) (t 48)),a 50 45 49,m 6 42,m 7 50],.ret]),[(.t 6),(.t 7)]⟩:zab)=y}).1
def b86_0:zah:=(⟨_,by first|(simp only[nf];exact rfl)|rfl⟩:{y//(q [q [r [m 71 11,m 72 8,v 73 .lss 71 72],k 73 .skip (.exit 1)],.block 2 (r [m 76 10,
 m 77 11,m 78 0,m 79 9,o 80 (.idS (t 78) (t 79)),e 81 1 76 77,O (.st (t 81) (t 80))]),r [m 74 11,u 75 .add 74 1,m 11 75]])=y}).1
def k86:zab:=(⟨_,by first|(simp only[nf];exact rfl)|rfl⟩:{y//(⟨144,(q [r [M 4 E,M 5 (n 0)],q [r [m 16 0,o 17 (.bin .eql (t 16) (c E))],k 17
 (q [r [M 4 E,M 5 (n 0)],.ret]) .skip],r [m 19 0,o 20 (.slS (t 19) (some (c (n 1))) none),C 21 45 [(t 20)],m 18 21,x 22 18 0,x 23 18 1,m 6 22,m 7 23],
 q [r [m 24 7,u 25 .eql 24 0,m 26 25,h 27 26 false 1,g 28 26 false (.bin .lss (t 27) (c (n 0))),p 29 26 28,m 30 29,h 31 30 false 6,h 32 30 false 1,
 g 33 30 false (.cvt .u64 (t 32)),g 34 30 false (.bin .gtr (t 31) (t 33)),p 35 30 34,m 36 35,h 37 36 false 6,g 38 36 false (.bin .gtr (t 37) (c
 (N 1048576))),p 39 36 38],k 39 (q [r [M 4 E,M 5 (n 0)],.ret]) .skip],r [m 40 6,o 41 (.cvt .i64 (t 40)),m 8 41],r [m 42 7,o 43 (.bin .add (c (n 1))
 (t 42)),m 9 43],q [r [m 44 0,o 45 (.idS (t 44) (c (n 0)))],.block 0 (q [r [o 47 (.bin .eql (t 45) (c (.int .u8 0))),m 46 47],k 46 (q [q [r [m 48 8,
 m 49 0,o 50 (.lenS (t 49)),m 51 9,v 52 .sub 50 51,v 53 .gtr 48 52],k 53 (q [r [M 4 E,M 5 (n 0)],.ret]) .skip],r [m 54 0,m 55 9,m 56 9,m 57 8,
 v 58 .add 56 57,o 59 (.slS (t 54) (some (t 55)) (some (t 58))),m 60 9,m 61 8,v 62 .add 60 61,m 4 59,m 5 62],.ret]) (q [r [o 64 (.bin .eql (t 45) (c
 (.int .u8 1))),m 63 64],k 63 (q [q [r [m 65 9,m 66 0,o 67 (.lenS (t 66)),v 68 .geq 65 67],k 68 (q [r [M 4 E,M 5 (n 0)],.ret]) .skip],r [m 69 8,o 70
 (.mks 5 [(.int .u8 0)] 1 (t 69) (t 69)),m 10 70],q [r [M 11 (n 0)],.block 1 (.loop b86_0)],r [m 82 10,o 83 (.b2s 5 (t 82)),m 84 9,u 85 .add 84 1,
 m 4 83,m 5 85],.ret]) (q [r [o 87 (.bin .eql (t 45) (c (.int .u8 2))),m 86 87],k 86 (q [r [m 89 0,m 90 9,o 91 (.slS (t 89) (some (t 90)) none),
 C 92 126 [(t 91)],m 88 92,x 93 88 0,x 94 88 1,m 12 93,m 13 94],q [r [m 95 13,u 96 .eql 95 0],k 96 (q [r [M 4 E,M 5 (n 0)],.ret]) .skip],r [m 97 9,
 m 98 13,v 99 .add 97 98,m 9 99],r [m 101 0,m 102 9,o 103 (.slS (t 101) (some (t 102)) none),C 104 45 [(t 103)],m 100 104,x 105 100 0,x 106 100 1,
 m 6 105,m 7 106],q [r [m 107 7,u 108 .eql 107 0,m 109 108,h 110 109 false 6,h 111 109 false 0,g 112 109 false (.lenS (t 111)),h 113 109 false 9,
 g 114 109 false (.bin .sub (t 112) (t 113)),h 115 109 false 7,g 116 109 false (.bin .sub (t 114) (t 115)),g 117 109 false (.cvt .u64 (t 116)),
 g 118 109 false (.bin .gtr (t 110) (t 117)),p 119 109 118],k 119 (q [r [M 4 E,M 5 (n 0)],.ret]) .skip],r [m 120 9,m 121 7,v 122 .add 120 121,
 m 9 122],r [m 124 12,m 125 0,m 126 9,m 127 9,m 128 6,o 129 (.cvt .i64 (t 128)),v 130 .add 127 129,o 131 (.slS (t 125) (some (t 126)) (some (t 130))),
 m 132 8,C 133 127 [(t 124),(t 131),(t 132)],m 123 133,x 134 123 0,x 135 123 1,m 14 134,m 15 135],q [r [m 136 15,o 137 (.un .not (t 136))],k 137
 (q [r [M 4 E,M 5 (n 0)],.ret]) .skip],r [m 138 14,o 139 (.b2s 5 (t 138)),m 140 9,m 141 6,o 142 (.cvt .i64 (t 141)),v 143 .add 140 142,m 4 139,
 m 5 143],.ret]) .skip])])])],r [M 4 E,M 5 (n 0)],.ret]),[(.t 4),(.t 5)]⟩:zab)=y}).1
def b87_1:zah:=(⟨_,by first|(simp only[nf];exact rfl)|rfl⟩:{y//(q [q [r [m 50 10,u 51 .lss 50 3],k 51 .skip (.exit 0)],.block 1 (q [r [m 55 0,
 m 56 7,o 57 (.slS (t 55) (some (t 56)) none),m 58 8,C 59 128 [(t 57),(t 58)],m 54 59,x 60 54 0,x 61 54 1,m 11 60,m 12 61],q [r [m 62 12,
 u 63 .eql 62 0],k 63 (q [r [M 4 Z,M 5 (n 0)],.ret]) .skip],r [m 64 10,m 65 11,o 66 (.iada 3 1 (t 9) (t 64)),O (.st (t 66) (t 65))],r [m 67 7,m 68 12,
 v 69 .add 67 68,m 7 69]]),r [m 52 10,u 53 .add 52 1,m 10 53]])=y}).1
def b87_2:zah:=(⟨_,by first|(simp only[nf];exact rfl)|rfl⟩:{y//(q [q [r [m 88 20,u 89 .lss 88 3],k 89 .skip (.exit 4)],.block 5 (q [r [m 92 20,o 93
 (.iada 3 1 (t 9) (t 92)),l 94 93,m 95 18,e 96 1 94 95,l 97 96,o 98 (.cvt .i64 (t 97)),m 21 98],r [m 99 21,C 100 131 [(t 99)],m 22 100],
 q [r [m 101 22,m 102 15,L 103 102,v 104 .gtr 101 103],k 104 (q [r [M 4 Z,M 5 (n 0)],.ret]) .skip],r [m 105 20,m 106 21,o 107 (.iada 3 1 (t 19)
 (t 105)),O (.st (t 107) (t 106))],q [r [m 108 21,u 109 .geq 108 16],k 109 (r [m 110 20,m 111 22,m 113 15,m 114 22,o 115 (.slc 3 1 (t 113) none (some
 (t 114))),C 112 132 [(t 111)],(.chk 115 none (.slc 3 1 (t 113) none (some (t 114)))),C 116 133 [(t 115)],o 117 (.cvt .i64 (t 116)),
 v 118 .add 112 117,o 119 (.iada 3 1 (t 19) (t 110)),O (.st (t 119) (t 118))]) .skip],r [m 120 15,m 121 22,o 122 (.slc 3 1 (t 120) (some
 (t 121)) none),m 15 122]]),r [m 90 20,u 91 .add 90 1,m 20 91]])=y}).1
def b87_0:zah:=(⟨_,by first|(simp only[nf];exact rfl)|rfl⟩:{y//(q [q [r [m 83 18,m 84 8,v 85 .lss 83 84],k 85 .skip (.exit 2)],.block 3 (q [r [o 19
 (.alloc 3 [(.int .i64 0),(.int .i64 0),(.int .i64 0)])],q [r [M 20 (n 0)],.block 4 (.loop b87_2)],r [o 123 (.ldn 3 (t 16)),o 124 (.iada 3 1 (t 19)
 (c (n 2))),l 125 124,C 126 134 [(t 123),(t 125)],m 23 126],q [r [m 127 23,u 128 .eql 127 0],k 128 (q [r [M 4 Z,M 5 (n 0)],.ret]) .skip],r [o 129
 (.ldn 3 (t 16)),m 130 23,C 131 135 [(t 129),(t 130)],O (.stn 3 (t 16) (t 131))],r [m 132 17,o 133 (.iada 3 1 (t 19) (c (n 0))),l 134 133,o 135
 (.iada 3 1 (t 19) (c (n 1))),l 136 135,u 137 .add 136 3,m 138 23,o 139 (.build [(.int .i64 0),(.int .i64 0),(.int .i64 0)] [(0,(1,(t 134))),(1,(1,
 (t 137))),(2,(1,(t 138)))]),o 140 (.bsl 155 1 [(.int .i64 0),(.int .i64 0),(.int .i64 0)] [(0,(3,(t 139)))]),o 141 (.app 155 3 24 (t 132) (t 140)),
 m 17 141]]),r [m 86 18,u 87 .add 86 1,m 18 87]])=y}).1
def k87:zab:=(⟨_,by first|(simp only[nf];exact rfl)|rfl⟩:{y//(⟨149,(q [r [M 4 Z,M 5 (n 0)],r [m 25 0,C 26 45 [(t 25)],m 24 26,x 27 24 0,x 28 24 1,
 m 6 27,m 7 28],q [r [m 29 7,u 30 .eql 29 0,m 31 30,h 32 31 false 1,g 33 31 false (.bin .lss (t 32) (c (n 0))),p 34 31 33,m 35 34,h 36 35 false 6,
 h 37 35 false 1,g 38 35 false (.cvt .u64 (t 37)),g 39 35 false (.bin .gtr (t 36) (t 38)),p 40 35 39,m 41 40,h 42 41 false 6,g 43 41 false (.bin .gtr
 (t 42) (c (N 1000))),p 44 41 43],k 44 (q [r [M 4 Z,M 5 (n 0)],.ret]) .skip],r [m 45 6,o 46 (.cvt .i64 (t 45)),m 8 46],q [r [m 47 8,u 48 .eql 47 0],
 k 48 (q [r [m 49 7,M 4 Z,m 5 49],.ret]) .skip],r [o 9 (.alloc 95 [(.slice none 0 0),(.slice none 0 0),(.slice none 0 0)])],q [r [M 10 (n 0)],
 .block 0 (.loop b87_1)],r [m 71 0,m 72 7,o 73 (.slS (t 71) (some (t 72)) none),C 74 129 [(t 73)],m 70 74,x 75 70 0,x 76 70 1,m 13 75,m 14 76],
 q [r [m 77 14,u 78 .eql 77 0],k 78 (q [r [M 4 Z,M 5 (n 0)],.ret]) .skip],r [m 79 13,o 80 (.s2b 5 (t 79)),C 81 130 [(t 80)],m 15 81],r [o 82
 (.build [(.int .i64 0),(.int .i64 0),(.int .i64 0)] [(0,(1,(c (n 1)))),(1,(1,(c (n 2)))),(2,(1,(c (n 4))))]),o 16 (.alloc 3 [(.int .i64 0),
 (.int .i64 0),(.int .i64 0)]),O (.stn 3 (t 16) (t 82))],r [M 17 Z],q [r [M 18 (n 0)],.block 2 (.loop b87_0)],q [r [m 142 15,C 143 136 [(t 142)],
 o 144 (.un .not (t 143))],k 144 (q [r [M 4 Z,M 5 (n 0)],.ret]) .skip],r [m 145 17,m 146 7,m 147 14,v 148 .add 146 147,m 4 145,m 5 148],.ret]),
 [(.t 4),(.t 5)]⟩:zab)=y}).1
def b88_1:zah:=(⟨_,by first|(simp only[nf];exact rfl)|rfl⟩:{y//(q [q [r [m 70 13,f 71 1 12,l 72 71,v 73 .lss 70 72],k 73 .skip (.exit 2)],.block 3
 (q [r [m 76 0,m 77 10,v 78 .add 76 77,m 14 78],r [m 79 14,o 80 (.lenS (t 79)),f 81 2 12,l 82 81,v 83 .sub 80 82,m 15 83],r [m 84 10,m 85 14,m 86 15,
 m 87 15,u 88 .add 87 1,o 89 (.slS (t 85) (some (t 86)) (some (t 88))),v 90 .add 84 89,m 10 90],r [m 91 10,o 92 (.lenS (t 91)),m 93 3,
 v 94 .gtr 92 93],k 94 (q [r [M 8 E,M 9 (n 5)],.ret]) .skip]),r [m 74 13,u 75 .add 74 1,m 13 75]])=y}).1
def b88_0:zah:=(⟨_,by first|(simp only[nf];exact rfl)|rfl⟩:{y//(q [q [r [m 18 11,m 19 2,L 20 19,v 21 .lss 18 20],k 21 .skip (.exit 0)],.block 1
 (q [r [m 24 2,m 25 11,e 26 3 24 25,o 27 (.ldn 3 (t 26)),o 12 (.alloc 155 [(.int .i64 0),(.int .i64 0),(.int .i64 0)]),O (.stn 3 (t 12) (t 27))],
 q [r [f 28 0 12,l 29 28,u 30 .lss 29 0,m 31 30,g 32 31 false (.fad 0 (t 12)),g 33 31 false (.ld (t 32)),h 34 31 false 1,g 35 31 false (.lenS (t 34)),
 g 36 31 false (.bin .gtr (t 33) (t 35)),p 37 31 36],k 37 (q [r [M 8 E,M 9 (n 3)],.ret]) .skip],r [m 38 10,m 39 1,f 40 0 12,l 41 40,o 42 (.slS
 (t 39) none (some (t 41))),v 43 .add 38 42,m 10 43],r [m 44 1,f 45 0 12,l 46 45,o 47 (.slS (t 44) (some (t 46)) none),m 1 47],q [r [m 48 10,o 49
 (.lenS (t 48)),m 50 3,v 51 .gtr 49 50],k 51 (q [r [M 8 E,M 9 (n 5)],.ret]) .skip],q [r [f 52 1 12,l 53 52,u 54 .lss 53 3,m 55 54,g 56 55 false
 (.fad 2 (t 12)),g 57 55 false (.ld (t 56)),g 58 55 false (.bin .lss (t 57) (c (n 1))),p 59 55 58,m 60 59,g 61 60 false (.fad 2 (t 12)),g 62 60 false
 (.ld (t 61)),h 63 60 false 0,g 64 60 false (.lenS (t 63)),h 65 60 false 10,g 66 60 false (.lenS (t 65)),g 67 60 false (.bin .add (t 64) (t 66)),
 g 68 60 false (.bin .gtr (t 62) (t 67)),p 69 60 68],k 69 (q [r [M 8 E,M 9 (n 3)],.ret]) .skip],r [M 13 (n 0)],.block 2 (.loop b88_1)]),r [m 22 11,
 u 23 .add 22 1,m 11 23]])=y}).1
def k88:zab:=(⟨_,by first|(simp only[nf];exact rfl)|rfl⟩:{y//(⟨103,(q [r [M 8 E,M 9 (n 0)],q [r [m 16 3,u 17 .lss 16 0],k 17 (r [M 3 (n 0)]) .skip],
 r [M 10 E],q [r [M 11 (n 0)],.block 0 (.loop b88_0)],r [m 95 10,m 96 1,v 97 .add 95 96,m 10 97],q [r [m 98 10,o 99 (.lenS (t 98)),m 100 3,
 v 101 .gtr 99 100],k 101 (q [r [M 8 E,M 9 (n 5)],.ret]) .skip],r [m 102 10,m 8 102,M 9 (n 0)],.ret]),[(.t 8),(.t 9)]⟩:zab)=y}).1
def b89_0:zah:=(⟨_,by first|(simp only[nf];exact rfl)|rfl⟩:{y//(q [r [u 8 .lss 7 10],k 8 .skip (.exit 0),.block 1 (q [r [m 9 7,m 4 9],r [m 10 0,
 C 11 83 [(t 10),(c (n 1))],m 5 11],q [r [m 12 5,o 13 (.bin .eql (t 12) (c E))],k 13 (q [r [M 2 (N 0)],.ret]) .skip],r [m 14 5,o 15 (.idS (t 14) (c
 (n 0))),o 16 (.cvt .u64 (t 15)),m 6 16],q [r [m 17 4,u 18 .eql 17 9,m 19 18,h 20 19 true 6,g 21 19 true (.bin .gtr (t 20) (c (N 1))),a 22 19 21,
 m 23 22,h 24 23 false 4,g 25 23 false (.bin .gtr (t 24) (c (n 0))),h 26 23 false 25,h 27 26 true 6,g 28 26 true (.bin .eql (t 27) (c (N 0))),
 g 29 23 false (.pick (t 26) (t 28) (c F)),p 30 23 29],k 30 (.exit 0) .skip],r [m 31 3,m 32 6,o 33 (.bin .and (t 32) (c (N 127))),m 34 4,o 35
 (.bin .mul (c (n 7)) (t 34)),v 36 .shl 33 35,v 37 .or 31 36,m 3 37],r [m 38 6,o 39 (.bin .lss (t 38) (c (N 128)))],k 39 (q [r [m 40 3,m 2 40],
 .ret]) .skip]),r [u 41 .add 7 1,m 7 41]])=y}).1
def k89:zab:=(⟨_,by first|(simp only[nf];exact rfl)|rfl⟩:{y//(⟨44,(q [r [M 2 (N 0)],r [M 3 (N 0)],q [r [M 7 (n 0)],.block 0 (.loop b89_0)],
 r [m 42 0,C 43 90 [(t 42)]],r [M 2 (N 0)],.ret]),[(.t 2)]⟩:zab)=y}).1
def k90:zab:=(⟨_,by first|(simp only[nf];exact rfl)|rfl⟩:{y//(⟨10,(q [r [m 2 0,o 3 (.eqv .ptr true (t 2) (c P))],k 3 (r [m 4 0,m 5 0,o 6 (.nck
 (t 4)),f 7 0 6,O (.st (t 7) (c E)),o 8 (.nck (t 5)),f 9 1 8,O (.st (t 9) (c T))]) .skip]),[]⟩:zab)=y}).1
def k91:zab:=(⟨_,by first|(simp only[nf];exact rfl)|rfl⟩:{y//(⟨10,(q [r [M 4 E],r [m 5 0,m 6 0,m 7 1,C 8 60 [(t 6),(t 7)],C 9 83 [(t 5),(t 8)],
 m 4 9],.ret]),[(.t 4)]⟩:zab)=y}).1
def k101:zab:=(⟨_,by first|(simp only[nf];exact rfl)|rfl⟩:{y//(⟨6,(q [r [M 2 (n 0)],r [m 3 0,o 4 (.mx (t 3) [(c (n 0))]),o 5 (.mn (t 4) [(c
 (n 3))]),m 2 5],.ret]),[(.t 2)]⟩:zab)=y}).1
def k102:zab:=(⟨_,by first|(simp only[nf];exact rfl)|rfl⟩:{y//(⟨10,(q [r [M 2 (n 0)],q [r [m 3 0,C 4 101 [(t 3)],m 0 4],r [m 5 0,u 6 .eql 5 0],k 6
 (q [r [M 2 (n 0)],.ret]) .skip],r [m 7 0,o 8 (.bin .mul (c (n 2)) (t 7)),o 9 (.bin .shl (c (n 1)) (t 8)),m 2 9],.ret]),[(.t 2)]⟩:zab)=y}).1
def k103:zab:=(⟨_,by first|(simp only[nf];exact rfl)|rfl⟩:{y//(⟨12,(q [r [M 4 E],r [m 5 0,m 6 0,o 7 (.lenS (t 6)),m 8 1,v 9 .sub 7 8,o 10 (.mx
 (t 9) [(c (n 0))]),o 11 (.slS (t 5) (some (t 10)) none),m 4 11],.ret]),[(.t 4)]⟩:zab)=y}).1
def b104_0:zah:=(⟨_,by first|(simp only[nf];exact rfl)|rfl⟩:{y//(q [r [v 22 .lss 21 20],k 22 .skip (.exit 0),.block 1 (q [r [m 23 21,m 4 23],
 r [m 24 3,o 25 (.nck (t 24)),f 26 1 25,l 27 26,m 28 4,e 29 1 27 28,O (.st (t 29) (c (n (-1))))]]),r [u 30 .add 21 1,m 21 30]])=y}).1
def k104:zab:=(⟨_,by first|(simp only[nf];exact rfl)|rfl⟩:{y//(⟨50,(q [r [M 2 P],r [m 5 0,m 6 0,o 7 (.lenS (t 6)),o 8 (.mn (t 7) [(c (n 2000))]),
 o 9 (.slS (t 5) none (some (t 8))),o 10 (.build [(.string (bs [])),(.slice none 0 0),(.slice none 0 0),(.slice none 0 0)] [(0,(1,(t 9)))]),o 11
 (.box 199 (t 10)),m 3 11],r [m 12 3,o 13 (.mks 3 [(.int .i64 0)] 8 (c (n 1024)) (c (n 1024))),o 14 (.nck (t 12)),f 15 1 14,O (.st (t 15) (t 13))],
 q [r [m 16 3,o 17 (.nck (t 16)),f 18 1 17,l 19 18,L 20 19,M 21 (n 0)],.block 0 (.loop b104_0)],r [m 31 3,m 32 3,m 33 3,o 34 (.nck (t 33)),f 35 0 34,
 l 36 35,o 37 (.lenS (t 36)),m 39 3,o 40 (.nck (t 39)),f 41 0 40,l 42 41,o 43 (.lenS (t 42)),o 38 (.mks 3 [(.int .i64 0)] 8 (t 37) (t 37)),
 (.chk 42 none (.ld (t 41))),o 45 (.nck (t 31)),f 46 2 45,O (.st (t 46) (t 38)),o 44 (.mks 4 [(.bool false)] 1 (t 43) (t 43)),(.chk 36 none (.ld
 (t 35))),o 47 (.nck (t 32)),f 48 3 47,O (.st (t 48) (t 44))],r [m 49 3,m 2 49],.ret]),[(.t 2)]⟩:zab)=y}).1
def k105:zab:=(⟨_,by first|(simp only[nf];exact rfl)|rfl⟩:{y//(⟨48,(q [r [M 4 F],q [r [m 6 0,m 7 1,C 8 144 [(t 6),(t 7)],o 9 (.un .not (t 8)),
 m 10 9,h 11 10 false 0,g 12 10 false (.nck (t 11)),g 13 10 false (.fad 3 (t 12)),g 14 10 false (.ld (t 13)),h 15 10 false 1,g 16 10 false (.iad 1
 (t 14) (t 15)),g 17 10 false (.ld (t 16)),p 18 10 17],k 18 (q [r [M 4 F],.ret]) .skip],r [m 19 0,m 20 1,C 21 145 [(t 19),(t 20)],m 5 21],r [m 22 0,
 o 23 (.nck (t 22)),f 24 2 23,l 25 24,m 26 1,m 27 0,o 28 (.nck (t 27)),f 29 3 28,l 30 29,m 31 1,m 32 0,o 33 (.nck (t 32)),f 34 1 33,l 35 34,m 36 5,
 e 37 1 35 36,l 38 37,e 39 1 25 26,O (.st (t 39) (t 38)),e 40 1 30 31,O (.st (t 40) (c T))],r [m 41 0,o 42 (.nck (t 41)),f 43 1 42,l 44 43,m 45 5,
 m 46 1,e 47 1 44 45,O (.st (t 47) (t 46))],r [M 4 T],.ret]),[(.t 4)]⟩:zab)=y}).1
def b106_0:zah:=(⟨_,by first|(simp only[nf];exact rfl)|rfl⟩:{y//(q [q [r [m 37 11,u 38 .neq 37 (-1),m 39 38,h 40 39 true 2,g 41 39 true (.bin .gtr
 (t 40) (c (n 0))),a 42 39 41],k 42 .skip (.exit 0)],.block 1 (q [q [r [m 50 0,o 51 (.nck (t 50)),f 52 0 51,l 53 52,m 54 11,m 55 11,u 56 .add 55 3,
 o 57 (.slS (t 53) (some (t 54)) (some (t 56))),m 58 10,v 59 .neq 57 58],k 59 (.exit 1) .skip],r [m 60 2,u 61 .sub 60 1,m 2 61],q [r [m 62 11,m 63 1,
 v 64 .geq 62 63],k 64 (.exit 1) .skip],r [m 65 0,o 66 (.nck (t 65)),f 67 0 66,l 68 67,m 69 11,m 70 1,C 71 146 [(t 68),(t 69),(t 70)],m 12 71],
 r [m 72 12,m 73 9,v 74 .gtr 72 73,m 75 74,h 76 75 false 12,h 77 75 false 9,g 78 75 false (.bin .eql (t 76) (t 77)),h 79 75 false 78,h 80 79 true 1,
 h 81 79 true 11,g 82 79 true (.bin .sub (t 80) (t 81)),h 83 79 true 8,g 84 79 true (.bin .lss (t 82) (t 83)),g 85 75 false (.pick (t 79) (t 84)
 (c F)),p 86 75 85],k 86 (r [m 87 1,m 88 11,v 89 .sub 87 88,m 90 12,m 8 89,m 9 90]) .skip]),r [m 43 0,o 44 (.nck (t 43)),f 45 2 44,l 46 45,m 47 11,
 e 48 1 46 47,l 49 48,m 11 49]])=y}).1
def k106:zab:=(⟨_,by first|(simp only[nf];exact rfl)|rfl⟩:{y//(⟨93,(q [r [M 6 (n 0),M 7 (n 0)],q [r [m 13 0,m 14 1,C 15 144 [(t 13),(t 14)],o 16
 (.un .not (t 15))],k 16 (q [r [M 6 (n 0),M 7 (n 0)],.ret]) .skip],r [m 17 2,o 18 (.mx (t 17) [(c (n 0))]),o 19 (.mn (t 18) [(c (n 1000))]),m 2 19],
 r [M 8 (n 0),M 9 (n 0)],r [m 20 0,o 21 (.nck (t 20)),f 22 0 21,l 23 22,m 24 1,m 25 1,u 26 .add 25 3,o 27 (.slS (t 23) (some (t 24)) (some (t 26))),
 m 10 27],q [r [m 28 0,o 29 (.nck (t 28)),f 30 1 29,l 31 30,m 32 0,m 33 1,C 34 145 [(t 32),(t 33)],(.chk 31 none (.ld (t 30))),e 35 1 31 34,l 36 35,
 m 11 36],.block 0 (.loop b106_0)],r [m 91 8,m 92 9,m 6 91,m 7 92],.ret]),[(.t 6),(.t 7)]⟩:zab)=y}).1
def k108:zab:=(⟨_,by first|(simp only[nf];exact rfl)|rfl⟩:{y//(⟨2,(q [r [o 0 (.alloc 3 [(.int .i64 0),(.int .i64 0),(.int .i64 0)])],r [o 1
 (.build [(.int .i64 0),(.int .i64 0),(.int .i64 0)] [(0,(1,(c (n 1)))),(1,(1,(c (n 2)))),(2,(1,(c (n 4))))]),O (.stn 3 (t 0) (t 1))],.ret]),
 [(.cn 0 3)]⟩:zab)=y}).1
def b111_0:zah:=(⟨_,by first|(simp only[nf];exact rfl)|rfl⟩:{y//(q [q [r [m 16 2,u 17 .gtr 16 0],k 17 .skip (.exit 0)],.block 1 (q [r [m 18 0,o 19
 (.nck (t 18)),f 20 1 19,l 21 20,u 22 .and 21 7,m 7 22],q [r [m 23 7,u 24 .eql 23 0],k 24 (r [m 25 0,m 26 0,o 27 (.nck (t 26)),f 28 0 27,l 29 28,o 30
 (.bsl 5 1 [(.int .u8 0)] [(0,(1,(c (.int .u8 0))))]),o 31 (.app 5 1 1 (t 29) (t 30)),o 32 (.nck (t 25)),f 33 0 32,O (.st (t 33) (t 31))]) .skip],
 r [m 34 2,m 35 7,o 36 (.bin .sub (c (n 8)) (t 35)),o 37 (.mn (t 34) [(t 36)]),m 8 37],r [m 38 0,o 39 (.nck (t 38)),f 40 0 39,l 41 40,m 42 0,o 43
 (.nck (t 42)),f 44 0 43,l 45 44,L 46 45,u 47 .sub 46 1,e 48 1 41 47,l 49 48,m 50 1,m 51 8,o 52 (.bin .shl (c (.int .u32 1)) (t 51)),o 53 (.bin .sub
 (t 52) (c (.int .u32 1))),v 54 .and 50 53,o 55 (.cvt .u8 (t 54)),m 56 7,v 57 .shl 55 56,v 58 .or 49 57,e 59 1 41 47,O (.st (t 59) (t 58))],r [m 60 1,
 m 61 8,v 62 .shr 60 61,m 1 62],r [m 63 0,o 64 (.nck (t 63)),f 65 1 64,l 66 65,m 67 8,v 68 .add 66 67,o 69 (.nck (t 63)),f 70 1 69,O (.st (t 70)
 (t 68))],r [m 71 2,m 72 8,v 73 .sub 71 72,m 2 73]])])=y}).1
def k111:zab:=(⟨_,by first|(simp only[nf];exact rfl)|rfl⟩:{y//(⟨74,(q [r [M 6 F],q [r [m 9 0,o 10 (.eqv .ptr false (t 9) (c P)),m 11 10,
 h 12 11 false 2,g 13 11 false (.call 149 [(t 12)]),g 14 11 false (.un .not (t 13)),p 15 11 14],k 15 (q [r [M 6 F],.ret]) .skip],.block 0
 (.loop b111_0),r [M 6 T],.ret]),[(.t 6)]⟩:zab)=y}).1
def k113:zab:=(⟨_,by first|(simp only[nf];exact rfl)|rfl⟩:{y//(⟨10,(q [r [M 2 Z],q [r [m 3 0,o 4 (.eqv .ptr false (t 3) (c P))],k 4 (q [r [M 2 Z],
 .ret]) .skip],r [m 5 0,o 6 (.nck (t 5)),f 7 0 6,l 8 7,o 9 (.app 5 1 1 (c Z) (t 8)),m 2 9],.ret]),[(.t 2)]⟩:zab)=y}).1
def k114:zab:=(⟨_,by first|(simp only[nf];exact rfl)|rfl⟩:{y//(⟨14,(q [r [M 2 F],r [m 3 0,o 4 (.bin .neq (t 3) (c E)),m 5 4,h 6 5 true 0,
 h 7 5 true 0,g 8 5 true (.slS (t 7) none (some (c (n 1)))),h 9 5 true 0,g 10 5 true (.lenS (t 9)),g 11 5 true (.call 84 [(t 8),(t 10)]),g 12 5 true
 (.bin .eql (t 6) (t 11)),a 13 5 12,m 2 13],.ret]),[(.t 2)]⟩:zab)=y}).1
def k115:zab:=(⟨_,by first|(simp only[nf];exact rfl)|rfl⟩:{y//(⟨12,(q [r [M 4 P],r [o 5 (.alloc 99 [(.slice none 0 0)])],r [m 6 0,o 7 (.cvt .u64
 (t 6)),C 8 81 [(t 5),(t 7),(c (n 1))],m 9 1,o 10 (.cvt .u64 (t 9)),C 11 64 [(t 8),(t 10)],m 4 11],.ret]),[(.t 4)]⟩:zab)=y}).1
def k116:zab:=(⟨_,by first|(simp only[nf];exact rfl)|rfl⟩:{y//(⟨9,(q [r [M 2 E],r [m 3 0,o 4 (.lenS (t 3)),C 5 115 [(c (n 0)),(t 4)],m 6 0,
 C 7 50 [(t 5),(t 6)],C 8 51 [(t 7)],m 2 8],.ret]),[(.t 2)]⟩:zab)=y}).1
def k117:zab:=(⟨_,by first|(simp only[nf];exact rfl)|rfl⟩:{y//(⟨39,(q [r [M 2 E,M 3 F],r [m 10 0,o 11 (.s2b 5 (t 10)),C 12 155 [(t 11)],
 C 13 154 [(t 12)],m 9 13,x 14 9 0,x 15 9 1,m 4 14,m 5 15],q [r [m 16 5,o 17 (.un .not (t 16))],k 17 (q [r [M 2 E,M 3 F],.ret]) .skip],r [m 19 4,
 C 20 156 [(t 19)],m 18 20,x 21 18 0,x 22 18 1,m 6 21,m 7 22],r [m 24 4,m 25 0,o 26 (.s2b 5 (t 25)),C 27 157 [(t 24),(t 26)],m 23 27,x 28 23 0,
 x 29 23 1,m 8 28,m 5 29],r [m 30 0,o 31 (.lenS (t 30)),C 32 115 [(c (n 2)),(t 31)],m 33 6,C 34 50 [(t 32),(t 33)],m 35 8,C 36 65 [(t 34),(t 35)],
 C 37 51 [(t 36)],m 38 5,m 2 37,m 3 38],.ret]),[(.t 2),(.t 3)]⟩:zab)=y}).1
def k118:zab:=(⟨_,by first|(simp only[nf];exact rfl)|rfl⟩:{y//(⟨20,(q [r [o 2 (.box 113 (t 0)),o 4 (.alloc 113 [(.int .u64 0),(.int .u64 0)])],
 r [f 6 0 2,l 7 6,m 8 1,o 9 (.cvt .u64 (t 8)),v 10 .xor 7 9,o 11 (.bin .mul (t 10) (c (N 11400714819323198485))),m 5 11],r [m 12 5,m 13 5,o 14
 (.bin .shr (t 13) (c (N 29))),v 15 .xor 12 14,f 16 1 2,l 17 16,o 18 (.bin .add (t 17) (c (N 1))),o 19 (.build [(.int .u64 0),(.int .u64 0)] [(0,(1,
 (t 15))),(1,(1,(t 18)))]),O (.stn 2 (t 4) (t 19))],.ret]),[(.cn 4 2)]⟩:zab)=y}).1
def k119:zab:=(⟨_,by first|(simp only[nf];exact rfl)|rfl⟩:{y//(⟨6,(q [r [M 2 (n 0)],r [m 3 0,o 4 (.mx (t 3) [(c (n 0))]),o 5 (.mn (t 4) [(c
 (n 8))]),m 2 5],.ret]),[(.t 2)]⟩:zab)=y}).1
def k120:zab:=(⟨_,by first|(simp only[nf];exact rfl)|rfl⟩:{y//(⟨30,(q [r [M 4 (N 0),M 5 (N 0)],.cond (c F) (q [r [m 11 0,o 12 (.cvt .u32 (t 11)),
 m 13 1,o 14 (.cvt .u32 (t 13)),C 15 158 [(t 12),(t 14)],m 10 15,x 16 10 0,x 17 10 1,m 6 16,m 7 17],r [m 18 6,o 19 (.cvt .u64 (t 18)),m 20 7,o 21
 (.cvt .u64 (t 20)),m 4 19,m 5 21],.ret]) .skip,r [m 23 0,m 24 1,C 25 159 [(t 23),(t 24)],m 22 25,x 26 22 0,x 27 22 1,m 8 26,m 9 27],r [m 28 8,m 29 9,
 m 4 28,m 5 29],.ret]),[(.t 4),(.t 5)]⟩:zab)=y}).1
def k123:zab:=(⟨_,by first|(simp only[nf];exact rfl)|rfl⟩:{y//(⟨44,(q [r [M 4 E,M 5 F],r [m 10 0,C 11 82 [(t 10),(c (n 1))],m 6 11],r [m 12 0,
 m 13 1,o 14 (.mn (t 13) [(c (n 1048576))]),C 15 60 [(t 12),(t 14)],m 7 15],q [r [m 16 0,C 17 61 [(t 16)]],k 17 (q [r [M 4 E,M 5 F],.ret]) .skip],
 q [r [m 18 6],.block 0 (q [r [o 20 (.bin .eql (t 18) (c (N 0))),m 19 20],k 19 (q [r [m 21 0,m 22 7,C 23 83 [(t 21),(t 22)],m 8 23],r [m 24 8,m 25 0,
 C 26 61 [(t 25)],o 27 (.un .not (t 26)),m 4 24,m 5 27],.ret]) (q [r [o 29 (.bin .eql (t 18) (c (N 1))),m 28 29],k 28 (q [r [m 30 0,C 31 83 [(t 30),
 (c (n 1))],m 9 31],q [r [m 32 0,C 33 61 [(t 32)]],k 33 (q [r [M 4 E,M 5 F],.ret]) .skip],r [m 34 9,m 35 7,C 36 84 [(t 34),(t 35)],m 4 36,M 5 T],
 .ret]) (q [r [o 38 (.bin .eql (t 18) (c (N 2))),m 37 38],k 37 (q [r [m 39 0,m 40 7,C 41 161 [(t 39),(t 40)],x 42 41 0,x 43 41 1,m 4 42,m 5 43],
 .ret]) .skip])])])],r [M 4 E,M 5 F],.ret]),[(.t 4),(.t 5)]⟩:zab)=y}).1
def b124_1:zah:=(⟨_,by first|(simp only[nf];exact rfl)|rfl⟩:{y//(q [r [u 32 .lss 31 3],k 32 .skip (.exit 0),.block 1 (q [r [m 33 31,m 8 33],
 r [m 35 0,m 36 6,C 37 162 [(t 35),(t 36)],m 34 37,x 38 34 0,x 39 34 1,m 9 38,m 10 39],q [r [m 40 10,o 41 (.un .not (t 40))],k 41 (q [r [M 4 Z,M 5 F],
 .ret]) .skip],r [m 42 8,m 43 9,o 44 (.iada 3 1 (t 7) (t 42)),O (.st (t 44) (t 43))]]),r [u 45 .add 31 1,m 31 45]])=y}).1
def b124_0:zah:=(⟨_,by first|(simp only[nf];exact rfl)|rfl⟩:{y//(q [r [v 55 .lss 54 53],k 55 .skip (.exit 2),.block 3 (q [r [m 56 54,m 14 56],
 r [o 58 (.iada 3 1 (t 7) (c (n 0))),l 59 58,m 60 14,e 61 1 59 60,l 62 61,o 63 (.iada 3 1 (t 7) (c (n 1))),l 64 63,m 65 14,e 66 1 64 65,l 67 66,o 68
 (.iada 3 1 (t 7) (c (n 2))),l 69 68,m 70 14,e 71 1 69 70,l 72 71,o 73 (.build [(.int .u8 0),(.int .u8 0),(.int .u8 0)] [(0,(1,(t 62))),(1,(1,
 (t 67))),(2,(1,(t 72)))]),m 74 11,o 75 (.ldn 3 (t 13)),C 76 164 [(t 73),(t 74),(t 75)],m 57 76,x 77 57 0,x 78 57 1,x 79 57 2,o 15
 (.alloc 155 [(.int .i64 0),(.int .i64 0),(.int .i64 0)]),(.chk 59 none (.ld (t 58))),(.chk 62 none (.ld (t 61))),(.chk 64 none (.ld (t 63))),
 (.chk 67 none (.ld (t 66))),(.chk 69 none (.ld (t 68))),(.chk 72 none (.ld (t 71))),(.chk 75 none (.ldn 3 (t 13))),o 16 (.alloc 3 [(.int .i64 0),
 (.int .i64 0),(.int .i64 0)]),(.chk 59 none (.ld (t 58))),(.chk 62 none (.ld (t 61))),(.chk 64 none (.ld (t 63))),(.chk 67 none (.ld (t 66))),
 (.chk 69 none (.ld (t 68))),(.chk 72 none (.ld (t 71))),(.chk 75 none (.ldn 3 (t 13))),O (.stn 3 (t 15) (t 77)),O (.stn 3 (t 16) (t 78)),m 17 79],
 q [r [m 80 17,o 81 (.un .not (t 80))],k 81 (q [r [M 4 Z,M 5 F],.ret]) .skip],r [m 82 12,o 83 (.ldn 3 (t 15)),o 86 (.ldn 3 (t 16)),o 84
 (.bsl 155 1 [(.int .i64 0),(.int .i64 0),(.int .i64 0)] [(0,(3,(t 83)))]),(.chk 86 none (.ldn 3 (t 16))),o 85 (.app 155 3 24 (t 82) (t 84)),
 (.chk 86 none (.ldn 3 (t 16))),m 12 85,O (.stn 3 (t 13) (t 86))]]),r [u 87 .add 54 1,m 54 87]])=y}).1
def k124:zab:=(⟨_,by first|(simp only[nf];exact rfl)|rfl⟩:{y//(⟨92,(q [r [M 4 Z,M 5 F],r [m 18 0,m 19 1,o 20 (.mn (t 19) [(c (n 1000))]),
 C 21 60 [(t 18),(t 20)],m 6 21],q [r [m 22 0,C 23 61 [(t 22)],m 24 23,h 25 24 false 6,g 26 24 false (.bin .eql (t 25) (c (n 0))),p 27 24 26],k 27
 (q [r [m 28 0,C 29 61 [(t 28)],o 30 (.un .not (t 29)),M 4 Z,m 5 30],.ret]) .skip],r [o 7 (.alloc 95 [(.slice none 0 0),(.slice none 0 0),
 (.slice none 0 0)])],q [r [M 31 (n 0)],.block 0 (.loop b124_1)],r [m 46 0,C 47 91 [(t 46),(c (n 4096))],o 48 (.s2b 5 (t 47)),C 49 163 [(t 48)],
 m 11 49],q [r [m 50 0,C 51 61 [(t 50)]],k 51 (q [r [M 4 Z,M 5 F],.ret]) .skip],r [M 12 Z],r [C 52 108 [],o 13 (.alloc 3 [(.int .i64 0),(.int .i64 0),
 (.int .i64 0)]),O (.stn 3 (t 13) (t 52))],q [r [m 53 6,M 54 (n 0)],.block 2 (.loop b124_0)],q [r [m 88 11,C 89 165 [(t 88)],o 90 (.un .not (t 89))],
 k 90 (q [r [M 4 Z,M 5 F],.ret]) .skip],r [m 91 12,m 4 91,M 5 T],.ret]),[(.t 4),(.t 5)]⟩:zab)=y}).1
def b125_0:zah:=(⟨_,by first|(simp only[nf];exact rfl)|rfl⟩:{y//(q [r [v 26 .lss 25 24],k 26 .skip (.exit 0),.block 1 (q [r [e 27 3 23 25,o 28
 (.ldn 3 (t 27)),o 12 (.alloc 155 [(.int .i64 0),(.int .i64 0),(.int .i64 0)]),O (.stn 3 (t 12) (t 28))],r [m 30 10,m 31 1,o 32 (.ldn 3 (t 12)),
 C 33 166 [(t 30),(t 31),(t 32)],m 29 33,x 34 29 0,x 35 29 1,m 13 34,m 14 35],q [r [m 36 14,u 37 .neq 36 0],k 37 (q [r [m 38 14,M 8 E,m 9 38],
 .ret]) .skip],r [m 39 13,m 1 39]]),r [u 40 .add 25 1,m 25 40]])=y}).1
def k125:zab:=(⟨_,by first|(simp only[nf];exact rfl)|rfl⟩:{y//(⟨58,(q [r [M 8 E,M 9 (n 0)],r [m 15 0,o 16 (.s2b 5 (t 15)),m 17 0,o 18 (.lenS
 (t 17)),m 19 3,o 20 (.mx (t 19) [(c (n 0))]),o 21 (.build [(.slice none 0 0),(.int .i64 0),(.int .i64 0)] [(0,(1,(t 16))),(1,(1,(t 18))),(2,(1,
 (t 20)))]),o 22 (.box 225 (t 21)),m 10 22],q [r [m 23 2,L 24 23,M 25 (n 0)],.block 0 (.loop b125_0)],q [r [m 41 10,m 42 1,o 43 (.lenS (t 42)),
 C 44 167 [(t 41),(t 43)],o 45 (.un .not (t 44))],k 45 (q [r [M 8 E,M 9 (n 5)],.ret]) .skip],r [m 46 10,o 47 (.nck (t 46)),f 48 0 47,l 49 48,m 50 1,
 m 52 10,o 53 (.nck (t 52)),f 54 1 53,l 55 54,o 51 (.appS 5 (t 49) (t 50)),(.chk 55 none (.ld (t 54))),o 56 (.slc 5 1 (t 51) (some (t 55)) none),o 57
 (.b2s 5 (t 56)),m 8 57,M 9 (n 0)],.ret]),[(.t 8),(.t 9)]⟩:zab)=y}).1
def b126_0:zah:=(⟨_,by first|(simp only[nf];exact rfl)|rfl⟩:{y//(q [q [r [m 23 7,m 24 4,v 25 .lss 23 24],k 25 .skip (.exit 0)],.block 1
 (q [r [m 28 0,m 29 7,u 30 .quo 29 2,o 31 (.bin .add (c (n 1)) (t 30)),o 32 (.idS (t 28) (t 31)),o 33 (.cvt .i64 (t 32)),m 8 33],q [r [m 34 7,
 u 35 .rem 34 2,u 36 .eql 35 1],k 36 (r [m 37 8,u 38 .quo 37 16,m 8 38]) .skip],r [m 39 6,m 40 8,u 41 .rem 40 16,o 42 (.bsl 3 1 [(.int .i64 0)] [(0,
 (1,(t 41)))]),o 43 (.app 3 1 8 (t 39) (t 42)),m 6 43]]),r [m 26 7,u 27 .add 26 1,m 7 27]])=y}).1
def k126:zab:=(⟨_,by first|(simp only[nf];exact rfl)|rfl⟩:{y//(⟨57,(q [r [M 2 Z,M 3 (n 0)],q [r [m 9 0,o 10 (.bin .eql (t 9) (c E))],k 10
 (q [r [M 2 Z,M 3 (n 0)],.ret]) .skip],r [m 11 0,o 12 (.idS (t 11) (c (n 0))),o 13 (.cvt .i64 (t 12)),u 14 .add 13 1,m 4 14],r [m 15 4,u 16 .add 15 1,
 u 17 .quo 16 2,o 18 (.bin .add (c (n 1)) (t 17)),m 5 18],q [r [m 19 5,m 20 0,o 21 (.lenS (t 20)),v 22 .gtr 19 21],k 22 (q [r [M 2 Z,M 3 (n 0)],
 .ret]) .skip],r [M 6 Z],q [r [M 7 (n 0)],.block 0 (.loop b126_0)],q [r [m 44 6,C 45 168 [(t 44)],o 46 (.un .not (t 45)),m 47 46,h 48 47 false 6,
 h 50 47 false 0,h 51 47 false 5,g 52 47 false (.slS (t 50) none (some (t 51))),g 49 47 false (.call 169 [(t 48)]),g 53 47 false (.bin .neq (t 49)
 (t 52)),p 54 47 53],k 54 (q [r [M 2 Z,M 3 (n 0)],.ret]) .skip],r [m 55 6,m 56 5,m 2 55,m 3 56],.ret]),[(.t 2),(.t 3)]⟩:zab)=y}).1
def b127_2:zah:=(⟨_,by first|(simp only[nf];exact rfl)|rfl⟩:{y//(q [q [r [m 16 9,m 17 0,L 18 17,v 19 .lss 16 18],k 19 .skip (.exit 0)],.block 1
 (q [r [m 22 0,m 23 9,e 24 1 22 23,l 25 24,u 26 .gtr 25 0],k 26 (r [m 27 9,m 28 0,m 29 9,C 30 170 [(t 28),(t 29)],o 31 (.iada 256 1 (t 8) (t 27)),O
 (.st (t 31) (t 30))]) .skip]),r [m 20 9,u 21 .add 20 1,m 9 21]])=y}).1
def b127_0:zah:=(⟨_,by first|(simp only[nf];exact rfl)|rfl⟩:{y//(q [q [r [m 72 15,m 73 10,L 74 73,v 75 .lss 72 74],k 75 .skip (.exit 6)],.block 7
 (q [r [m 78 10,m 79 15,e 80 1 78 79,l 81 80,u 82 .neq 81 0,m 83 82,h 84 83 false 15,g 85 83 false (.bin .geq (t 84) (c (n 7))),p 86 83 85],k 86
 (q [r [M 6 Z,M 7 F],.ret]) .skip]),r [m 76 15,u 77 .add 76 1,m 15 77]])=y}).1
def b127_3:zah:=(⟨_,by first|(simp only[nf];exact rfl)|rfl⟩:{y//(q [q [r [m 40 14,m 41 0,L 42 41,v 43 .lss 40 42],k 43 .skip (.exit 4)],.block 5
 (q [r [m 46 0,m 47 14,e 48 1 46 47,l 49 48,u 50 .gtr 49 0,m 51 50,h 52 51 true 10,h 53 51 true 14,g 54 51 true (.iada 256 1 (t 8) (t 53)),
 g 55 51 true (.ld (t 54)),g 56 51 true (.call 171 [(t 52),(t 55)]),a 57 51 56],k 57 (r [m 58 14,m 13 58]) .skip]),r [m 44 14,u 45 .add 44 1,
 m 14 45]])=y}).1
def b127_1:zah:=(⟨_,by first|(simp only[nf];exact rfl)|rfl⟩:{y//(q [q [r [m 35 12,m 36 2,v 37 .lss 35 36],k 37 .skip (.exit 2)],.block 3
 (q [r [M 13 (n (-1))],q [r [M 14 (n 0)],.block 4 (.loop b127_3)],q [r [m 59 13,u 60 .lss 59 0],k 60 (q [r [M 6 Z,M 7 F],.ret]) .skip],r [m 61 11,
 m 62 13,o 63 (.cvt .u8 (t 62)),o 64 (.bsl 5 1 [(.int .u8 0)] [(0,(1,(t 63)))]),o 65 (.app 5 1 1 (t 61) (t 64)),m 11 65],r [m 66 10,m 67 0,m 68 13,
 e 69 1 67 68,l 70 69,o 71 (.slc 3 1 (t 66) (some (t 70)) none),m 10 71]]),r [m 38 12,u 39 .add 38 1,m 12 39]])=y}).1
def k127:zab:=(⟨_,by first|(simp only[nf];exact rfl)|rfl⟩:{y//(⟨88,(q [r [M 6 Z,M 7 F],r [o 8 (.alloc 105 [(.slice none 0 0),(.slice none 0 0),
 (.slice none 0 0),(.slice none 0 0),(.slice none 0 0),(.slice none 0 0),(.slice none 0 0),(.slice none 0 0),(.slice none 0 0),(.slice none 0 0),
 (.slice none 0 0),(.slice none 0 0),(.slice none 0 0),(.slice none 0 0),(.slice none 0 0),(.slice none 0 0),(.slice none 0 0),(.slice none 0 0),
 (.slice none 0 0),(.slice none 0 0),(.slice none 0 0),(.slice none 0 0),(.slice none 0 0),(.slice none 0 0),(.slice none 0 0),(.slice none 0 0),
 (.slice none 0 0),(.slice none 0 0),(.slice none 0 0),(.slice none 0 0),(.slice none 0 0),(.slice none 0 0),(.slice none 0 0),(.slice none 0 0),
 (.slice none 0 0),(.slice none 0 0),(.slice none 0 0),(.slice none 0 0),(.slice none 0 0),(.slice none 0 0),(.slice none 0 0),(.slice none 0 0),
 (.slice none 0 0),(.slice none 0 0),(.slice none 0 0),(.slice none 0 0),(.slice none 0 0),(.slice none 0 0),(.slice none 0 0),(.slice none 0 0),
 (.slice none 0 0),(.slice none 0 0),(.slice none 0 0),(.slice none 0 0),(.slice none 0 0),(.slice none 0 0),(.slice none 0 0),(.slice none 0 0),
 (.slice none 0 0),(.slice none 0 0),(.slice none 0 0),(.slice none 0 0),(.slice none 0 0),(.slice none 0 0),(.slice none 0 0),(.slice none 0 0),
 (.slice none 0 0),(.slice none 0 0),(.slice none 0 0),(.slice none 0 0),(.slice none 0 0),(.slice none 0 0),(.slice none 0 0),(.slice none 0 0),
 (.slice none 0 0),(.slice none 0 0),(.slice none 0 0),(.slice none 0 0),(.slice none 0 0),(.slice none 0 0),(.slice none 0 0),(.slice none 0 0),
 (.slice none 0 0),(.slice none 0 0),(.slice none 0 0),(.slice none 0 0),(.slice none 0 0),(.slice none 0 0),(.slice none 0 0),(.slice none 0 0),
 (.slice none 0 0),(.slice none 0 0),(.slice none 0 0),(.slice none 0 0),(.slice none 0 0),(.slice none 0 0),(.slice none 0 0),(.slice none 0 0),
 (.slice none 0 0),(.slice none 0 0),(.slice none 0 0),(.slice none 0 0),(.slice none 0 0),(.slice none 0 0),(.slice none 0 0),(.slice none 0 0),
 (.slice none 0 0),(.slice none 0 0),(.slice none 0 0),(.slice none 0 0),(.slice none 0 0),(.slice none 0 0),(.slice none 0 0),(.slice none 0 0),
 (.slice none 0 0),(.slice none 0 0),(.slice none 0 0),(.slice none 0 0),(.slice none 0 0),(.slice none 0 0),(.slice none 0 0),(.slice none 0 0),
 (.slice none 0 0),(.slice none 0 0),(.slice none 0 0),(.slice none 0 0),(.slice none 0 0),(.slice none 0 0),(.slice none 0 0),(.slice none 0 0),
 (.slice none 0 0),(.slice none 0 0),(.slice none 0 0),(.slice none 0 0),(.slice none 0 0),(.slice none 0 0),(.slice none 0 0),(.slice none 0 0),
 (.slice none 0 0),(.slice none 0 0),(.slice none 0 0),(.slice none 0 0),(.slice none 0 0),(.slice none 0 0),(.slice none 0 0),(.slice none 0 0),
 (.slice none 0 0),(.slice none 0 0),(.slice none 0 0),(.slice none 0 0),(.slice none 0 0),(.slice none 0 0),(.slice none 0 0),(.slice none 0 0),
 (.slice none 0 0),(.slice none 0 0),(.slice none 0 0),(.slice none 0 0),(.slice none 0 0),(.slice none 0 0),(.slice none 0 0),(.slice none 0 0),
 (.slice none 0 0),(.slice none 0 0),(.slice none 0 0),(.slice none 0 0),(.slice none 0 0),(.slice none 0 0),(.slice none 0 0),(.slice none 0 0),
 (.slice none 0 0),(.slice none 0 0),(.slice none 0 0),(.slice none 0 0),(.slice none 0 0),(.slice none 0 0),(.slice none 0 0),(.slice none 0 0),
 (.slice none 0 0),(.slice none 0 0),(.slice none 0 0),(.slice none 0 0),(.slice none 0 0),(.slice none 0 0),(.slice none 0 0),(.slice none 0 0),
 (.slice none 0 0),(.slice none 0 0),(.slice none 0 0),(.slice none 0 0),(.slice none 0 0),(.slice none 0 0),(.slice none 0 0),(.slice none 0 0),
 (.slice none 0 0),(.slice none 0 0),(.slice none 0 0),(.slice none 0 0),(.slice none 0 0),(.slice none 0 0),(.slice none 0 0),(.slice none 0 0),
 (.slice none 0 0),(.slice none 0 0),(.slice none 0 0),(.slice none 0 0),(.slice none 0 0),(.slice none 0 0),(.slice none 0 0),(.slice none 0 0),
 (.slice none 0 0),(.slice none 0 0),(.slice none 0 0),(.slice none 0 0),(.slice none 0 0),(.slice none 0 0),(.slice none 0 0),(.slice none 0 0),
 (.slice none 0 0),(.slice none 0 0),(.slice none 0 0),(.slice none 0 0),(.slice none 0 0),(.slice none 0 0),(.slice none 0 0),(.slice none 0 0),
 (.slice none 0 0),(.slice none 0 0),(.slice none 0 0),(.slice none 0 0),(.slice none 0 0),(.slice none 0 0),(.slice none 0 0),(.slice none 0 0),
 (.slice none 0 0),(.slice none 0 0),(.slice none 0 0),(.slice none 0 0),(.slice none 0 0),(.slice none 0 0),(.slice none 0 0),(.slice none 0 0),
 (.slice none 0 0),(.slice none 0 0),(.slice none 0 0),(.slice none 0 0),(.slice none 0 0),(.slice none 0 0),(.slice none 0 0),(.slice none 0 0),
 (.slice none 0 0),(.slice none 0 0),(.slice none 0 0),(.slice none 0 0),(.slice none 0 0),(.slice none 0 0)])],q [r [M 9 (n 0)],.block 0
 (.loop b127_2)],r [m 32 1,o 33 (.s2b 5 (t 32)),C 34 130 [(t 33)],m 10 34],r [M 11 Z],q [r [M 12 (n 0)],.block 2 (.loop b127_1)],q [r [M 15 (n 0)],
 .block 6 (.loop b127_0)],r [m 87 11,m 6 87,M 7 T],.ret]),[(.t 6),(.t 7)]⟩:zab)=y}).1
def b128_1:zah:=(⟨_,by first|(simp only[nf];exact rfl)|rfl⟩:{y//(q [q [r [m 48 8,m 49 1,v 50 .lss 48 49],k 50 .skip (.exit 1)],.block 2 (r [m 53 6,
 m 54 0,o 55 (.idS (t 54) (c (n 1))),o 56 (.bsl 5 1 [(.int .u8 0)] [(0,(1,(t 55)))]),o 57 (.app 5 1 1 (t 53) (t 56)),m 6 57]),r [m 51 8,
 u 52 .add 51 1,m 8 52]])=y}).1
def b128_0:zah:=(⟨_,by first|(simp only[nf];exact rfl)|rfl⟩:{y//(q [q [r [m 72 11,m 73 6,L 74 73,v 75 .lss 72 74],k 75 .skip (.exit 3)],.block 4
 (q [r [m 78 6,m 79 11,e 80 1 78 79,l 81 80,o 82 (.bin .geq (t 81) (c (.int .u8 28)))],k 82 (q [r [M 4 Z,M 5 (n 0)],.ret]) .skip]),r [m 76 11,
 u 77 .add 76 1,m 11 77]])=y}).1
def k128:zab:=(⟨_,by first|(simp only[nf];exact rfl)|rfl⟩:{y//(⟨85,(q [r [M 4 Z,M 5 (n 0)],q [r [m 12 0,o 13 (.bin .eql (t 12) (c E)),m 14 13,
 h 15 14 false 1,g 16 14 false (.bin .lss (t 15) (c (n 0))),p 17 14 16,m 18 17,h 19 18 false 1,g 20 18 false (.bin .gtr (t 19) (c (n 4096))),
 p 21 18 20],k 21 (q [r [M 4 Z,M 5 (n 0)],.ret]) .skip],r [M 6 Z],r [M 7 (n 0)],q [r [m 22 0,o 23 (.idS (t 22) (c (n 0)))],.block 0 (q [r [o 25
 (.bin .eql (t 23) (c (.int .u8 0))),m 24 25],k 24 (q [q [r [m 26 1,m 27 0,o 28 (.lenS (t 27)),u 29 .sub 28 1,v 30 .gtr 26 29],k 30 (q [r [M 4 Z,M 5
 (n 0)],.ret]) .skip],r [m 31 0,m 32 1,o 33 (.bin .add (c (n 1)) (t 32)),o 34 (.slS (t 31) (some (c (n 1))) (some (t 33))),o 35 (.s2b 5 (t 34)),
 m 6 35],r [m 36 1,o 37 (.bin .add (c (n 1)) (t 36)),m 7 37]]) (q [r [o 39 (.bin .eql (t 23) (c (.int .u8 1))),m 38 39],k 38 (q [q [r [m 40 0,o 41
 (.lenS (t 40)),u 42 .lss 41 2,m 43 42,h 44 43 false 0,g 45 43 false (.idS (t 44) (c (n 1))),g 46 43 false (.bin .geq (t 45) (c (.int .u8 28))),
 p 47 43 46],k 47 (q [r [M 4 Z,M 5 (n 0)],.ret]) .skip],q [r [M 8 (n 0)],.block 1 (.loop b128_1)],r [M 7 (n 2)]]) (q [r [o 59 (.bin .eql (t 23) (c
 (.int .u8 2))),m 58 59],k 58 (q [r [m 61 0,o 62 (.slS (t 61) (some (c (n 1))) none),m 63 1,C 64 172 [(t 62),(t 63)],m 60 64,x 65 60 0,x 66 60 1,
 m 9 65,m 10 66],q [r [m 67 10,u 68 .eql 67 0],k 68 (q [r [M 4 Z,M 5 (n 0)],.ret]) .skip],r [m 69 9,m 6 69],r [m 70 10,o 71 (.bin .add (c (n 1))
 (t 70)),m 7 71]]) .skip])])])],q [r [M 11 (n 0)],.block 3 (.loop b128_0)],r [m 83 6,m 84 7,m 4 83,m 5 84],.ret]),[(.t 4),(.t 5)]⟩:zab)=y}).1
def k129:zab:=(⟨_,by first|(simp only[nf];exact rfl)|rfl⟩:{y//(⟨37,(q [r [M 2 E,M 3 (n 0)],r [m 7 0,C 8 45 [(t 7)],m 6 8,x 9 6 0,x 10 6 1,m 4 9,
 m 5 10],q [r [m 11 5,u 12 .eql 11 0,m 13 12,h 14 13 false 4,g 15 13 false (.bin .gtr (t 14) (c (N 4096))),p 16 13 15,m 17 16,h 18 17 false 4,
 h 19 17 false 0,g 20 17 false (.lenS (t 19)),h 21 17 false 5,g 22 17 false (.bin .sub (t 20) (t 21)),g 23 17 false (.cvt .u64 (t 22)),g 24 17 false
 (.bin .gtr (t 18) (t 23)),p 25 17 24],k 25 (q [r [M 2 E,M 3 (n 0)],.ret]) .skip],r [m 26 0,m 27 5,m 28 5,m 29 4,o 30 (.cvt .i64 (t 29)),
 v 31 .add 28 30,o 32 (.slS (t 26) (some (t 27)) (some (t 31))),m 33 5,m 34 4,o 35 (.cvt .i64 (t 34)),v 36 .add 33 35,m 2 32,m 3 36],.ret]),[(.t 2),
 (.t 3)]⟩:zab)=y}).1
def b130_0:zah:=(⟨_,by first|(simp only[nf];exact rfl)|rfl⟩:{y//(q [q [r [m 5 4,m 6 0,L 7 6,v 8 .lss 5 7],k 8 .skip (.exit 0)],.block 1 (r [m 11 3,
 m 12 0,m 13 4,e 14 1 12 13,l 15 14,o 16 (.cvt .u32 (t 15)),C 17 173 [(t 16),(c (n 8))],o 18 (.app 3 1 8 (t 11) (t 17)),m 3 18]),r [m 9 4,
 u 10 .add 9 1,m 4 10]])=y}).1
def k130:zab:=(⟨_,by first|(simp only[nf];exact rfl)|rfl⟩:{y//(⟨20,(q [r [M 2 Z],r [M 3 Z],q [r [M 4 (n 0)],.block 0 (.loop b130_0)],r [m 19 3,
 m 2 19],.ret]),[(.t 2)]⟩:zab)=y}).1
def k131:zab:=(⟨_,by first|(simp only[nf];exact rfl)|rfl⟩:{y//(⟨9,(q [r [M 2 (n 0)],q [r [m 3 0,u 4 .lss 3 16],k 4 (q [r [M 2 (n 0)],.ret]) .skip],
 q [r [m 5 0,u 6 .gtr 5 27],k 6 (q [r [M 2 (n (-1))],.ret]) .skip],r [m 7 0,u 8 .sub 7 12,m 2 8],.ret]),[(.t 2)]⟩:zab)=y}).1
def b132_0:zah:=(⟨_,by first|(simp only[nf];exact rfl)|rfl⟩:{y//(q [q [r [m 5 4,m 6 0,v 7 .lss 5 6],k 7 .skip (.exit 0)],.block 1 (r [m 10 3,
 u 11 .mul 10 2,m 3 11]),r [m 8 4,u 9 .add 8 1,m 4 9]])=y}).1
def k132:zab:=(⟨_,by first|(simp only[nf];exact rfl)|rfl⟩:{y//(⟨13,(q [r [M 2 (n 0)],r [M 3 (n 1)],q [r [M 4 (n 0)],.block 0 (.loop b132_0)],
 r [m 12 3,m 2 12],.ret]),[(.t 2)]⟩:zab)=y}).1
def b133_0:zah:=(⟨_,by first|(simp only[nf];exact rfl)|rfl⟩:{y//(q [q [r [m 8 4,u 9 .geq 8 0],k 9 .skip (.exit 0)],.block 1 (r [m 12 3,o 13
 (.bin .mul (t 12) (c (.int .u32 2))),m 14 0,m 15 4,e 16 1 14 15,l 17 16,o 18 (.cvt .u32 (t 17)),v 19 .add 13 18,m 3 19]),r [m 10 4,u 11 .sub 10 1,
 m 4 11]])=y}).1
def k133:zab:=(⟨_,by first|(simp only[nf];exact rfl)|rfl⟩:{y//(⟨21,(q [r [M 2 (.int .u32 0)],r [M 3 (.int .u32 0)],q [r [m 5 0,L 6 5,u 7 .sub 6 1,
 m 4 7],.block 0 (.loop b133_0)],r [m 20 3,m 2 20],.ret]),[(.t 2)]⟩:zab)=y}).1
def k134:zab:=(⟨_,by first|(simp only[nf];exact rfl)|rfl⟩:{y//(⟨19,(q [r [o 2 (.box 3 (t 0)),M 4 (n 0)],r [m 6 1,u 7 .sub 6 2,m 5 7],q [r [m 8 1,
 u 9 .lss 8 3],k 9 (r [m 10 1,o 11 (.iada 3 1 (t 2) (t 10)),l 12 11,m 5 12]) .skip],q [r [o 13 (.ldn 3 (t 2)),m 14 5,C 15 174 [(t 13),(t 14)],m 16 1,
 v 17 .neq 15 16],k 17 (q [r [M 4 (n 0)],.ret]) .skip],r [m 18 5,m 4 18],.ret]),[(.t 4)]⟩:zab)=y}).1
def b135_0:zah:=(⟨_,by first|(simp only[nf];exact rfl)|rfl⟩:{y//(q [q [r [m 11 8,u 12 .lss 11 3,m 13 12,h 14 13 true 6,g 15 13 true (.bin .lss
 (t 14) (c (n 3))),a 16 13 15],k 16 .skip (.exit 0)],.block 1 (q [q [r [m 19 8,o 20 (.iada 3 1 (t 2) (t 19)),l 21 20,m 22 1,v 23 .eql 21 22,m 24 23,
 h 25 24 true 7,g 26 24 true (.un .not (t 25)),a 27 24 26],k 27 (q [r [M 7 T],.exit 1]) .skip],r [m 28 6,m 29 8,o 30 (.iada 3 1 (t 2) (t 29)),l 31 30,
 o 32 (.iada 3 1 (t 5) (t 28)),O (.st (t 32) (t 31))],r [m 33 6,u 34 .add 33 1,m 6 34]]),r [m 17 8,u 18 .add 17 1,m 8 18]])=y}).1
def k135:zab:=(⟨_,by first|(simp only[nf];exact rfl)|rfl⟩:{y//(⟨36,(q [r [o 2 (.box 3 (t 0)),o 4 (.alloc 3 [(.int .i64 0),(.int .i64 0),
 (.int .i64 0)])],r [m 9 1,o 10 (.build [(.int .i64 0),(.int .i64 0),(.int .i64 0)] [(0,(1,(t 9)))]),o 5 (.alloc 3 [(.int .i64 0),(.int .i64 0),
 (.int .i64 0)]),O (.stn 3 (t 5) (t 10))],r [M 6 (n 1)],r [M 7 F],q [r [M 8 (n 0)],.block 0 (.loop b135_0)],r [o 35 (.ldn 3 (t 5)),O (.stn 3 (t 4)
 (t 35))],.ret]),[(.cn 4 3)]⟩:zab)=y}).1
def b136_0:zah:=(⟨_,by first|(simp only[nf];exact rfl)|rfl⟩:{y//(q [q [r [m 4 3,m 5 0,L 6 5,v 7 .lss 4 6],k 7 .skip (.exit 0)],.block 1
 (q [r [m 10 0,m 11 3,e 12 1 10 11,l 13 12,u 14 .neq 13 0],k 14 (q [r [M 2 F],.ret]) .skip]),r [m 8 3,u 9 .add 8 1,m 3 9]])=y}).1
def k136:zab:=(⟨_,by first|(simp only[nf];exact rfl)|rfl⟩:{y//(⟨18,(q [r [M 2 F],q [r [M 3 (n 0)],.block 0 (.loop b136_0)],r [m 15 0,L 16 15,
 u 17 .lss 16 8,m 2 17],.ret]),[(.t 2)]⟩:zab)=y}).1
def b138_0:zah:=(⟨_,by first|(simp only[nf];exact rfl)|rfl⟩:{y//(q [q [r [m 9 3,u 10 .geq 9 0],k 10 .skip (.exit 0)],.block 1 (r [m 13 0,m 14 3,
 m 15 2,C 16 175 [(t 13),(t 14),(t 15)]]),r [m 11 3,u 12 .sub 11 1,m 3 12]])=y}).1
def k138:zab:=(⟨_,by first|(simp only[nf];exact rfl)|rfl⟩:{y//(⟨17,(q [r [m 4 0,o 5 (.inv (t 4) "Len" []),m 2 5],r [m 6 2,u 7 .quo 6 2,u 8 .sub 7 1,
 m 3 8],.block 0 (.loop b138_0)]),[]⟩:zab)=y}).1
def k140:zab:=(⟨_,by first|(simp only[nf];exact rfl)|rfl⟩:{y//(⟨15,(q [r [M 2 .nilIface],r [m 4 0,o 5 (.inv (t 4) "Len" []),u 6 .sub 5 1,m 3 6],
 r [m 7 0,m 8 3,o 9 (.inv (t 7) "Swap" [(c (n 0)),(t 8)])],r [m 10 0,m 11 3,C 12 175 [(t 10),(c (n 0)),(t 11)]],r [m 13 0,o 14 (.inv (t 13) "Pop" []),
 m 2 14],.ret]),[(.t 2)]⟩:zab)=y}).1
def k141:zab:=(⟨_,by first|(simp only[nf];exact rfl)|rfl⟩:{y//(⟨12,(q [r [m 4 0,m 5 1,o 6 (.inv (t 4) "Push" [(t 5)])],r [m 7 0,m 8 0,o 9 (.inv
 (t 8) "Len" []),u 10 .sub 9 1,C 11 176 [(t 7),(t 10)]]]),[]⟩:zab)=y}).1
def k144:zab:=(⟨_,by first|(simp only[nf];exact rfl)|rfl⟩:{y//(⟨14,(q [r [M 4 F],r [m 5 1,u 6 .geq 5 0,m 7 6,h 8 7 true 1,h 9 7 true 0,g 10 7 true
 (.call 179 [(t 9)]),g 11 7 true (.bin .sub (t 10) (c (n 3))),g 12 7 true (.bin .leq (t 8) (t 11)),a 13 7 12,m 4 13],.ret]),[(.t 4)]⟩:zab)=y}).1
def k145:zab:=(⟨_,by first|(simp only[nf];exact rfl)|rfl⟩:{y//(⟨32,(q [r [M 4 (n 0)],r [m 7 0,o 8 (.nck (t 7)),f 9 0 8,l 10 9,m 11 1,m 12 1,
 u 13 .add 12 3,o 14 (.slS (t 10) (some (t 11)) (some (t 13))),m 5 14],r [m 15 5,o 16 (.idS (t 15) (c (n 0))),o 17 (.cvt .u32 (t 16)),m 18 5,o 19
 (.idS (t 18) (c (n 1))),o 20 (.cvt .u32 (t 19)),o 21 (.bin .shl (t 20) (c (N 8))),v 22 .or 17 21,m 23 5,o 24 (.idS (t 23) (c (n 2))),o 25 (.cvt .u32
 (t 24)),o 26 (.bin .shl (t 25) (c (N 16))),v 27 .or 22 26,m 6 27],r [m 28 6,o 29 (.bin .mul (t 28) (c (.int .u32 2654435761))),o 30 (.bin .shr
 (t 29) (c (N 22))),o 31 (.cvt .i64 (t 30)),m 4 31],.ret]),[(.t 4)]⟩:zab)=y}).1
def k147:zab:=(⟨_,by first|(simp only[nf];exact rfl)|rfl⟩:{y//(⟨28,(q [r [o 2 (.box 3 (t 0)),M 4 (n 0),o 5 (.alloc 3 [(.int .i64 0),(.int .i64 0),
 (.int .i64 0)]),M 6 F],q [r [m 8 1,C 9 180 [(t 8)],o 10 (.un .not (t 9))],k 10 (q [r [o 11 (.ldn 3 (t 2)),M 4 (n 0),O (.stn 3 (t 5) (t 11)),M 6 F],
 .ret]) .skip],q [r [o 12 (.sla 3 3 1 (t 2) none none),m 13 1,C 14 181 [(t 12),(t 13)],m 7 14],r [m 15 7,u 16 .geq 15 0],k 16 (q [r [m 17 7,o 18
 (.ldn 3 (t 2)),m 19 7,m 20 1,C 21 182 [(t 18),(t 19),(t 20)],m 4 17,O (.stn 3 (t 5) (t 21)),M 6 T],.ret]) .skip],r [m 22 1,u 23 .add 22 3,
 u 24 .sub 23 1,o 25 (.ldn 3 (t 2)),m 26 1,C 27 182 [(t 25),(c (n 3)),(t 26)],m 4 24,O (.stn 3 (t 5) (t 27)),M 6 T],.ret]),[(.t 4),(.cn 5 3),
 (.t 6)]⟩:zab)=y}).1
def k148:zab:=(⟨_,by first|(simp only[nf];exact rfl)|rfl⟩:{y//(⟨5,(q [r [M 2 (n 0)],r [m 3 0,C 4 183 [(t 3)],m 2 4],.ret]),[(.t 2)]⟩:zab)=y}).1
def k149:zab:=(⟨_,by first|(simp only[nf];exact rfl)|rfl⟩:{y//(⟨9,(q [r [M 2 F],r [m 3 0,u 4 .geq 3 0,m 5 4,h 6 5 true 0,g 7 5 true (.bin .leq
 (t 6) (c (n 32))),a 8 5 7,m 2 8],.ret]),[(.t 2)]⟩:zab)=y}).1
def k154:zab:=(⟨_,by first|(simp only[nf];exact rfl)|rfl⟩:{y//(⟨39,(q [r [M 2 Z,M 3 F],q [r [m 8 0,C 9 189 [(t 8)],o 10 (.un .not (t 9))],k 10
 (q [r [M 2 Z,M 3 F],.ret]) .skip],r [m 12 0,C 13 190 [(t 12)],m 11 13,x 14 11 0,x 15 11 1,m 4 14,m 5 15],r [m 16 0,L 17 16,o 18
 (.mks 3 [(.int .i64 0)] 8 (t 17) (t 17)),o 6 (.alloc 105 [(.slice none 0 0)]),O (.st (t 6) (t 18))],q [r [m 19 4,o 20 (.nck (t 19)),f 21 2 20,
 l 22 21,u 23 .geq 22 0],k 23 (q [r [l 24 6,m 25 4,o 26 (.nck (t 25)),f 27 2 26,l 28 27,e 29 1 24 28,O (.st (t 29) (c (n 1)))],r [l 30 6,m 2 30,
 M 3 T],.ret]) .skip],r [o 7 (.alloc 3 [(.int .i64 0)]),O (.st (t 7) (c (n 0)))],r [m 31 4,o 32 (.mkf (.func 192) [] [(t 6),(t 7)]),C 33 191 [(t 31),
 (c (n 0)),(t 32)]],q [r [l 34 7,u 35 .gtr 34 11],k 35 (q [r [m 36 0,C 37 193 [(t 36)],m 2 37,M 3 T],.ret]) .skip],r [l 38 6,m 2 38,M 3 T],.ret]),
 [(.t 2),(.t 3)]⟩:zab)=y}).1
def b155_1:zah:=(⟨_,by first|(simp only[nf];exact rfl)|rfl⟩:{y//(q [q [r [m 12 3,L 13 12,m 14 5,o 15 (.cvt .i64 (t 14)),v 16 .leq 13 15],k 16 .skip
 (.exit 2)],.block 3 (r [m 17 3,o 18 (.bsl 3 1 [(.int .i64 0)] [(0,(1,(c (n 0))))]),o 19 (.app 3 1 8 (t 17) (t 18)),m 3 19])])=y}).1
def b155_0:zah:=(⟨_,by first|(simp only[nf];exact rfl)|rfl⟩:{y//(q [r [v 9 .lss 8 7],k 9 .skip (.exit 0),.block 1 (q [r [e 10 1 6 8,l 11 10,m 5 11],
 .block 2 (.loop b155_1),r [m 20 3,m 21 5,e 22 1 20 21,l 23 22,u 24 .add 23 1,e 25 1 20 21,O (.st (t 25) (t 24))]]),r [u 26 .add 8 1,m 8 26]])=y}).1
def k155:zab:=(⟨_,by first|(simp only[nf];exact rfl)|rfl⟩:{y//(⟨28,(q [r [M 2 Z],r [M 3 Z],q [r [m 6 0,L 7 6,M 8 (n 0)],.block 0 (.loop b155_0)],
 r [m 27 3,m 2 27],.ret]),[(.t 2)]⟩:zab)=y}).1
def b156_0:zah:=(⟨_,by first|(simp only[nf];exact rfl)|rfl⟩:{y//(q [q [r [m 18 6,m 19 4,L 20 19,v 21 .lss 18 20],k 21 .skip (.exit 0)],.block 1
 (q [r [m 24 4,m 25 6,e 26 1 24 25,l 27 26,o 28 (.cvt .u8 (t 27)),m 7 28],q [r [m 29 6,u 30 .add 29 1,m 31 4,L 32 31,v 33 .lss 30 32],k 33 (r [m 34 7,
 m 35 4,m 36 6,u 37 .add 36 1,e 38 1 35 37,l 39 38,o 40 (.cvt .u8 (t 39)),o 41 (.bin .shl (t 40) (c (N 4))),v 42 .or 34 41,m 7 42]) .skip],r [m 43 5,
 m 44 7,o 45 (.bsl 5 1 [(.int .u8 0)] [(0,(1,(t 44)))]),o 46 (.app 5 1 1 (t 43) (t 45)),m 5 46]]),r [m 22 6,u 23 .add 22 2,m 6 23]])=y}).1
def k156:zab:=(⟨_,by first|(simp only[nf];exact rfl)|rfl⟩:{y//(⟨49,(q [r [M 2 E,M 3 F],q [r [m 8 0,C 9 194 [(t 8)],o 10 (.un .not (t 9))],k 10
 (q [r [M 2 E,M 3 F],.ret]) .skip],r [m 11 0,C 12 195 [(t 11)],m 4 12],r [m 13 4,L 14 13,u 15 .sub 14 1,o 16 (.cvt .u8 (t 15)),o 17
 (.bsl 5 1 [(.int .u8 0)] [(0,(1,(t 16)))]),m 5 17],q [r [M 6 (n 0)],.block 0 (.loop b156_0)],r [m 47 5,o 48 (.b2s 5 (t 47)),m 2 48,M 3 T],.ret]),
 [(.t 2),(.t 3)]⟩:zab)=y}).1
def b157_0:zah:=(⟨_,by first|(simp only[nf];exact rfl)|rfl⟩:{y//(q [r [v 21 .lss 20 19],k 21 .skip (.exit 0),.block 1 (q [r [e 22 1 18 20,l 23 22,
 m 10 23],q [r [m 24 10,o 25 (.cvt .i64 (t 24)),m 26 0,L 27 26,v 28 .geq 25 27,m 29 28,h 30 29 false 0,h 31 29 false 10,g 32 29 false (.iad 1 (t 30)
 (t 31)),g 33 29 false (.ld (t 32)),g 34 29 false (.bin .eql (t 33) (c (n 0))),p 35 29 34],k 35 (q [r [M 4 E,M 5 F],.ret]) .skip],r [m 36 6,m 37 10,
 e 38 1 36 37,l 39 38,m 40 0,m 41 10,e 42 1 40 41,l 43 42,m 45 0,m 46 10,e 47 1 45 46,l 48 47,C 44 197 [(t 39),(t 43)],(.chk 48 none (.ld (t 47))),
 C 49 111 [(t 8),(t 44),(t 48)]]]),r [u 50 .add 20 1,m 20 50]])=y}).1
def k157:zab:=(⟨_,by first|(simp only[nf];exact rfl)|rfl⟩:{y//(⟨53,(q [r [M 4 E,M 5 F],r [m 12 0,C 13 196 [(t 12)],m 11 13,x 14 11 0,x 15 11 1,
 m 6 14,m 7 15],q [r [m 16 7,o 17 (.un .not (t 16))],k 17 (q [r [M 4 E,M 5 F],.ret]) .skip],r [o 8 (.alloc 158 [(.slice none 0 0),(.int .i64 0)])],
 q [r [m 18 1,L 19 18,M 20 (n 0)],.block 0 (.loop b157_0)],r [C 51 113 [(t 8)],o 52 (.b2s 5 (t 51)),m 4 52,M 5 T],.ret]),[(.t 4),
 (.t 5)]⟩:zab)=y}).1
def k159:zab:=(⟨_,by first|(simp only[nf];exact rfl)|rfl⟩:{y//(⟨51,(q [r [M 4 (N 0),M 5 (N 0)],r [m 14 0,o 15 (.bin .and (t 14) (c (N 4294967295))),
 m 6 15],r [m 16 0,o 17 (.bin .shr (t 16) (c (N 32))),m 7 17],r [m 18 1,o 19 (.bin .and (t 18) (c (N 4294967295))),m 8 19],r [m 20 1,o 21 (.bin .shr
 (t 20) (c (N 32))),m 9 21],r [m 22 6,m 23 8,v 24 .mul 22 23,m 10 24],r [m 25 7,m 26 8,v 27 .mul 25 26,m 28 10,o 29 (.bin .shr (t 28) (c (N 32))),
 v 30 .add 27 29,m 11 30],r [m 31 11,o 32 (.bin .and (t 31) (c (N 4294967295))),m 12 32],r [m 33 11,o 34 (.bin .shr (t 33) (c (N 32))),m 13 34],
 r [m 35 12,m 36 6,m 37 9,v 38 .mul 36 37,v 39 .add 35 38,m 12 39],r [m 40 7,m 41 9,v 42 .mul 40 41,m 43 13,v 44 .add 42 43,m 45 12,o 46 (.bin .shr
 (t 45) (c (N 32))),v 47 .add 44 46,m 4 47],r [m 48 0,m 49 1,v 50 .mul 48 49,m 5 50],.ret]),[(.t 4),(.t 5)]⟩:zab)=y}).1
def k161:zab:=(⟨_,by first|(simp only[nf];exact rfl)|rfl⟩:{y//(⟨31,(q [r [M 4 E,M 5 F],r [m 11 0,C 12 198 [(t 11)],m 10 12,x 13 10 0,x 14 10 1,
 m 6 13,m 7 14],q [r [m 15 7,o 16 (.un .not (t 15))],k 16 (q [r [M 4 E,M 5 F],.ret]) .skip],r [m 17 0,C 18 91 [(t 17),(c (n 1048576))],m 8 18],
 q [r [m 19 0,C 20 61 [(t 19)]],k 20 (q [r [M 4 E,M 5 F],.ret]) .skip],r [m 22 6,m 23 8,m 24 1,C 25 199 [(t 22),(t 23),(t 24)],m 21 25,x 26 21 0,
 x 27 21 1,m 9 26,m 7 27],r [m 28 9,o 29 (.b2s 5 (t 28)),m 30 7,m 4 29,m 5 30],.ret]),[(.t 4),(.t 5)]⟩:zab)=y}).1
def k162:zab:=(⟨_,by first|(simp only[nf];exact rfl)|rfl⟩:{y//(⟨65,(q [r [M 4 Z,M 5 F],r [m 9 0,C 10 82 [(t 9),(c (n 1))],m 6 10],q [r [m 11 0,
 C 12 61 [(t 11)],m 13 12,h 14 13 false 1,g 15 13 false (.bin .lss (t 14) (c (n 0))),p 16 13 15,m 17 16,h 18 17 false 1,g 19 17 false (.bin .gtr
 (t 18) (c (n 4096))),p 20 17 19],k 20 (q [r [M 4 Z,M 5 F],.ret]) .skip],r [M 7 Z],r [M 8 T],q [r [m 21 6],.block 0 (q [r [o 23 (.bin .eql (t 21) (c
 (N 0))),m 22 23],k 22 (r [m 24 0,m 25 1,C 26 83 [(t 24),(t 25)],o 27 (.s2b 5 (t 26)),m 7 27]) (q [r [o 29 (.bin .eql (t 21) (c (N 1))),m 28 29],k 28
 (q [r [m 30 0,C 31 83 [(t 30),(c (n 1))],o 32 (.s2b 5 (t 31)),m 7 32],r [m 33 7,L 34 33,u 35 .eql 34 1,m 36 35,h 37 36 true 7,g 38 36 true (.iad 1
 (t 37) (c (n 0))),g 39 36 true (.ld (t 38)),g 40 36 true (.bin .lss (t 39) (c (.int .u8 28))),a 41 36 40,m 8 41],r [m 42 8],k 42 (r [m 43 7,m 44 1,
 C 45 200 [(t 43),(t 44)],m 7 45]) .skip]) (q [r [o 47 (.bin .eql (t 21) (c (N 2))),m 46 47],k 46 (r [m 49 0,m 50 1,C 51 201 [(t 49),(t 50)],m 48 51,
 x 52 48 0,x 53 48 1,m 7 52,m 8 53]) (q [r [M 4 Z,M 5 F],.ret])])])])],q [r [m 54 0,C 55 61 [(t 54)],m 56 55,h 57 56 false 8,g 58 56 false (.un .not
 (t 57)),p 59 56 58,m 60 59,h 61 60 false 7,g 62 60 false (.call 202 [(t 61),(c (.func (.func 203) ([]).toArray ([]).toArray))]),p 63 60 62],k 63
 (q [r [M 4 Z,M 5 F],.ret]) .skip],r [m 64 7,m 4 64,M 5 T],.ret]),[(.t 4),(.t 5)]⟩:zab)=y}).1
def k163:zab:=(⟨_,by first|(simp only[nf];exact rfl)|rfl⟩:{y//(⟨7,(q [r [M 2 P],r [m 3 0,o 4 (.app 5 1 1 (c Z) (t 3)),o 5
 (.build [(.slice none 0 0),(.int .i64 0)] [(0,(1,(t 4)))]),o 6 (.box 265 (t 5)),m 2 6],.ret]),[(.t 2)]⟩:zab)=y}).1
def b164_0:zah:=(⟨_,by first|(simp only[nf];exact rfl)|rfl⟩:{y//(q [r [u 17 .lss 16 3],k 17 .skip (.exit 0),.block 1 (q [r [m 18 16,m 10 18],
 r [m 20 10,o 21 (.iada 3 1 (t 3) (t 20)),l 22 21,m 23 1,C 24 204 [(t 22),(t 23)],m 19 24,x 25 19 0,x 26 19 1,m 11 25,m 12 26],q [r [m 27 12,o 28
 (.un .not (t 27))],k 28 (q [r [o 29 (.build [(.int .i64 0),(.int .i64 0),(.int .i64 0)] []),o 30 (.ldn 3 (t 5)),O (.stn 3 (t 6) (t 29)),
 (.chk 30 none (.ldn 3 (t 5))),O (.stn 3 (t 7) (t 30)),M 8 F],.ret]) .skip],r [m 31 10,m 32 11,o 33 (.iada 3 1 (t 9) (t 31)),O (.st (t 33) (t 32))]]),
 r [u 34 .add 16 1,m 16 34]])=y}).1
def k164:zab:=(⟨_,by first|(simp only[nf];exact rfl)|rfl⟩:{y//(⟨52,(q [r [o 3 (.box 5 (t 0)),o 5 (.box 3 (t 2)),o 6 (.alloc 155 [(.int .i64 0),
 (.int .i64 0),(.int .i64 0)]),o 7 (.alloc 3 [(.int .i64 0),(.int .i64 0),(.int .i64 0)]),M 8 F],r [o 9 (.alloc 3 [(.int .i64 0),(.int .i64 0),
 (.int .i64 0)])],q [r [M 16 (n 0)],.block 0 (.loop b164_0)],r [o 36 (.ldn 3 (t 5)),o 37 (.iada 3 1 (t 9) (c (n 2))),l 38 37,C 39 205 [(t 36),(t 38)],
 m 35 39,x 40 35 0,x 41 35 1,x 42 35 2,o 14 (.alloc 3 [(.int .i64 0),(.int .i64 0),(.int .i64 0)]),m 13 40,O (.stn 3 (t 14) (t 41)),m 15 42],r [o 43
 (.iada 3 1 (t 9) (c (n 0))),l 44 43,o 45 (.iada 3 1 (t 9) (c (n 1))),l 46 45,u 47 .add 46 3,m 48 13,o 49 (.build [(.int .i64 0),(.int .i64 0),
 (.int .i64 0)] [(0,(1,(t 44))),(1,(1,(t 47))),(2,(1,(t 48)))]),o 50 (.ldn 3 (t 14)),m 51 15,O (.stn 3 (t 6) (t 49)),(.chk 50 none (.ldn 3 (t 14))),O
 (.stn 3 (t 7) (t 50)),m 8 51],.ret]),[(.cn 6 3),(.cn 7 3),(.t 8)]⟩:zab)=y}).1
def k165:zab:=(⟨_,by first|(simp only[nf];exact rfl)|rfl⟩:{y//(⟨21,(q [r [M 2 F],r [m 6 0,C 7 206 [(t 6)],m 3 7],r [m 9 0,m 10 3,o 11 (.mn
 (t 10) [(c (n 8))]),C 12 207 [(t 9),(t 11)],m 8 12,x 13 8 0,x 14 8 1,m 4 13,m 5 14],r [m 15 3,u 16 .lss 15 8,m 17 16,h 18 17 true 4,g 19 17 true
 (.bin .eql (t 18) (c (.int .u32 0))),a 20 17 19,m 2 20],.ret]),[(.t 2)]⟩:zab)=y}).1
def k166:zab:=(⟨_,by first|(simp only[nf];exact rfl)|rfl⟩:{y//(⟨72,(q [r [o 5 (.box 155 (t 2)),M 6 E,M 7 (n 0)],.block 0 (q [r [f 9 0 5,l 10 9,
 u 11 .lss 10 0,m 12 11,g 13 12 false (.fad 0 (t 5)),g 14 12 false (.ld (t 13)),h 15 12 false 1,g 16 12 false (.lenS (t 15)),g 17 12 false (.bin .gtr
 (t 14) (t 16)),p 18 12 17,m 8 18],k 8 (q [r [M 6 E,M 7 (n 3)],.ret]) (q [r [m 20 0,f 21 0 5,l 22 21,C 23 167 [(t 20),(t 22)],o 24 (.un .not (t 23)),
 m 19 24],k 19 (q [r [M 6 E,M 7 (n 5)],.ret]) .skip])]),r [m 25 0,m 26 0,o 27 (.nck (t 26)),f 28 0 27,l 29 28,m 30 1,f 31 0 5,l 32 31,o 33 (.slS
 (t 30) none (some (t 32))),o 34 (.appS 5 (t 29) (t 33)),o 35 (.nck (t 25)),f 36 0 35,O (.st (t 36) (t 34))],.block 1 (q [r [f 38 1 5,l 39 38,
 u 40 .lss 39 3,m 41 40,g 42 41 false (.fad 2 (t 5)),g 43 41 false (.ld (t 42)),g 44 41 false (.bin .lss (t 43) (c (n 1))),p 45 41 44,m 46 45,
 g 47 46 false (.fad 2 (t 5)),g 48 46 false (.ld (t 47)),h 49 46 false 0,g 50 46 false (.nck (t 49)),g 51 46 false (.fad 0 (t 50)),g 52 46 false (.ld
 (t 51)),g 53 46 false (.lenL (t 52)),g 54 46 false (.bin .gtr (t 48) (t 53)),p 55 46 54,m 37 55],k 37 (q [r [M 6 E,M 7 (n 3)],.ret]) (q [r [m 57 0,
 f 58 1 5,l 59 58,C 60 167 [(t 57),(t 59)],o 61 (.un .not (t 60)),m 56 61],k 56 (q [r [M 6 E,M 7 (n 5)],.ret]) .skip])]),r [m 62 0,f 63 2 5,l 64 63,
 f 65 1 5,l 66 65,C 67 208 [(t 62),(t 64),(t 66)]],r [m 68 1,f 69 0 5,l 70 69,o 71 (.slS (t 68) (some (t 70)) none),m 6 71,M 7 (n 0)],.ret]),[(.t 6),
 (.t 7)]⟩:zab)=y}).1
def k167:zab:=(⟨_,by first|(simp only[nf];exact rfl)|rfl⟩:{y//(⟨22,(q [r [M 4 F],r [m 5 1,m 6 0,o 7 (.nck (t 6)),f 8 2 7,l 9 8,m 10 0,o 11 (.nck
 (t 10)),f 12 0 11,l 13 12,L 14 13,m 15 0,o 16 (.nck (t 15)),f 17 1 16,l 18 17,v 19 .sub 14 18,v 20 .sub 9 19,v 21 .leq 5 20,m 4 21],.ret]),
 [(.t 4)]⟩:zab)=y}).1
def b168_0:zah:=(⟨_,by first|(simp only[nf];exact rfl)|rfl⟩:{y//(q [q [r [m 9 5,m 10 0,L 11 10,v 12 .lss 9 11],k 12 .skip (.exit 0)],.block 1
 (q [r [m 15 0,m 16 5,e 17 1 15 16,l 18 17,u 19 .gtr 18 0],k 19 (q [r [m 20 3,m 21 0,m 22 5,e 23 1 21 22,l 24 23,o 25 (.bin .sub (c (n 11)) (t 24)),
 C 26 132 [(t 25)],v 27 .add 20 26,m 3 27],r [m 28 4,u 29 .add 28 1,m 4 29]]) .skip]),r [m 13 5,u 14 .add 13 1,m 5 14]])=y}).1
def k168:zab:=(⟨_,by first|(simp only[nf];exact rfl)|rfl⟩:{y//(⟨40,(q [r [M 2 F],q [r [m 6 0,C 7 209 [(t 6)],o 8 (.un .not (t 7))],k 8
 (q [r [M 2 F],.ret]) .skip],r [M 3 (n 0)],r [M 4 (n 0)],q [r [M 5 (n 0)],.block 0 (.loop b168_0)],r [m 30 3,u 31 .eql 30 2048,m 32 31,
 h 33 32 false 4,g 34 32 false (.bin .eql (t 33) (c (n 1))),h 35 32 false 34,h 36 35 true 3,g 37 35 true (.bin .eql (t 36) (c (n 1024))),
 g 38 32 false (.pick (t 35) (t 37) (c F)),p 39 32 38,m 2 39],.ret]),[(.t 2)]⟩:zab)=y}).1
def b169_0:zah:=(⟨_,by first|(simp only[nf];exact rfl)|rfl⟩:{y//(q [q [r [m 14 5,m 15 3,L 16 15,v 17 .lss 14 16],k 17 .skip (.exit 0)],.block 1
 (q [r [m 20 3,m 21 5,e 22 1 20 21,l 23 22,m 6 23],q [r [m 24 5,u 25 .add 24 1,m 26 3,L 27 26,v 28 .lss 25 27],k 28 (r [m 29 6,m 30 3,m 31 5,
 u 32 .add 31 1,e 33 1 30 32,l 34 33,o 35 (.bin .mul (c (n 16)) (t 34)),v 36 .add 29 35,m 6 36]) .skip],r [m 37 4,m 38 6,o 39 (.cvt .u8 (t 38)),o 40
 (.bsl 5 1 [(.int .u8 0)] [(0,(1,(t 39)))]),o 41 (.app 5 1 1 (t 37) (t 40)),m 4 41]]),r [m 18 5,u 19 .add 18 2,m 5 19]])=y}).1
def k169:zab:=(⟨_,by first|(simp only[nf];exact rfl)|rfl⟩:{y//(⟨44,(q [r [M 2 E],r [m 7 0,C 8 210 [(t 7)],m 3 8],r [m 9 3,L 10 9,u 11 .sub 10 1,
 o 12 (.cvt .u8 (t 11)),o 13 (.bsl 5 1 [(.int .u8 0)] [(0,(1,(t 12)))]),m 4 13],q [r [M 5 (n 0)],.block 0 (.loop b169_0)],r [m 42 4,o 43 (.b2s 5
 (t 42)),m 2 43],.ret]),[(.t 2)]⟩:zab)=y}).1
def b170_0:zah:=(⟨_,by first|(simp only[nf];exact rfl)|rfl⟩:{y//(q [q [r [m 18 7,u 19 .geq 18 0],k 19 .skip (.exit 0)],.block 1 (r [m 22 5,m 23 6,
 m 24 7,C 25 132 [(t 24)],v 26 .quo 23 25,u 27 .rem 26 2,o 28 (.bsl 3 1 [(.int .i64 0)] [(0,(1,(t 27)))]),o 29 (.app 3 1 8 (t 22) (t 28)),m 5 29]),
 r [m 20 7,u 21 .sub 20 1,m 7 21]])=y}).1
def k170:zab:=(⟨_,by first|(simp only[nf];exact rfl)|rfl⟩:{y//(⟨31,(q [r [M 4 Z],r [M 5 Z],r [m 8 0,C 9 211 [(t 8)],m 10 1,e 11 1 9 10,l 12 11,
 m 6 12],q [r [m 13 0,m 14 1,e 15 1 13 14,l 16 15,u 17 .sub 16 1,m 7 17],.block 0 (.loop b170_0)],r [m 30 5,m 4 30],.ret]),[(.t 4)]⟩:zab)=y}).1
def b171_0:zah:=(⟨_,by first|(simp only[nf];exact rfl)|rfl⟩:{y//(q [q [r [m 11 5,m 12 1,L 13 12,v 14 .lss 11 13],k 14 .skip (.exit 0)],.block 1
 (q [r [m 17 0,m 18 5,e 19 1 17 18,l 20 19,m 21 1,m 22 5,e 23 1 21 22,l 24 23,v 25 .neq 20 24],k 25 (q [r [M 4 F],.ret]) .skip]),r [m 15 5,
 u 16 .add 15 1,m 5 16]])=y}).1
def k171:zab:=(⟨_,by first|(simp only[nf];exact rfl)|rfl⟩:{y//(⟨26,(q [r [M 4 F],q [r [m 6 0,L 7 6,m 8 1,L 9 8,v 10 .lss 7 9],k 10 (q [r [M 4 F],
 .ret]) .skip],q [r [M 5 (n 0)],.block 0 (.loop b171_0)],r [M 4 T],.ret]),[(.t 4)]⟩:zab)=y}).1
def k172:zab:=(⟨_,by first|(simp only[nf];exact rfl)|rfl⟩:{y//(⟨73,(q [r [M 4 Z,M 5 (n 0)],r [m 17 0,C 18 129 [(t 17)],m 16 18,x 19 16 0,x 20 16 1,
 m 6 19,m 7 20],q [r [m 21 7,u 22 .eql 21 0],k 22 (q [r [M 4 Z,M 5 (n 0)],.ret]) .skip],r [m 24 0,m 25 7,o 26 (.slS (t 24) (some (t 25)) none),
 C 27 129 [(t 26)],m 23 27,x 28 23 0,x 29 23 1,m 8 28,m 9 29],q [r [m 30 9,u 31 .eql 30 0],k 31 (q [r [M 4 Z,M 5 (n 0)],.ret]) .skip],r [m 32 6,o 33
 (.s2b 5 (t 32)),C 34 130 [(t 33)],m 10 34],r [m 36 10,C 37 212 [(t 36)],m 35 37,x 38 35 0,x 39 35 1,x 40 35 2,m 11 38,m 12 39,m 13 40],q [r [m 41 13,
 u 42 .eql 41 0,m 43 42,h 44 43 false 10,h 45 43 false 13,g 46 43 false (.slc 3 1 (t 44) (some (t 45)) none),g 47 43 false (.call 136 [(t 46)]),
 g 48 43 false (.un .not (t 47)),p 49 43 48,m 50 49,h 51 50 false 11,h 52 50 false 12,g 53 50 false (.call 213 [(t 51),(t 52)]),g 54 50 false
 (.un .not (t 53)),p 55 50 54],k 55 (q [r [M 4 Z,M 5 (n 0)],.ret]) .skip],r [m 57 11,m 58 12,C 59 215 [(t 57),(t 58)],m 60 12,m 61 8,o 62 (.s2b 5
 (t 61)),m 63 1,C 64 214 [(t 59),(t 60),(t 62),(t 63)],m 56 64,x 65 56 0,x 66 56 1,m 14 65,m 15 66],q [r [m 67 15,o 68 (.un .not (t 67))],k 68
 (q [r [M 4 Z,M 5 (n 0)],.ret]) .skip],r [m 69 14,m 70 7,m 71 9,v 72 .add 70 71,m 4 69,m 5 72],.ret]),[(.t 4),(.t 5)]⟩:zab)=y}).1
def b173_0:zah:=(⟨_,by first|(simp only[nf];exact rfl)|rfl⟩:{y//(q [q [r [m 7 6,m 8 1,v 9 .lss 7 8],k 9 .skip (.exit 0)],.block 1 (r [m 12 5,m 13 0,
 m 14 6,v 15 .shr 13 14,o 16 (.cvt .i64 (t 15)),u 17 .rem 16 2,o 18 (.bsl 3 1 [(.int .i64 0)] [(0,(1,(t 17)))]),o 19 (.app 3 1 8 (t 12) (t 18)),
 m 5 19]),r [m 10 6,u 11 .add 10 1,m 6 11]])=y}).1
def k173:zab:=(⟨_,by first|(simp only[nf];exact rfl)|rfl⟩:{y//(⟨21,(q [r [M 4 Z],r [M 5 Z],q [r [M 6 (n 0)],.block 0 (.loop b173_0)],r [m 20 5,
 m 4 20],.ret]),[(.t 4)]⟩:zab)=y}).1
def b174_0:zah:=(⟨_,by first|(simp only[nf];exact rfl)|rfl⟩:{y//(q [q [r [m 12 5,u 13 .lss 12 3],k 13 .skip (.exit 0)],.block 1 (q [r [m 16 5,o 17
 (.iada 3 1 (t 2) (t 16)),l 18 17,m 19 1,v 20 .eql 18 19],k 20 (q [r [m 21 5,m 4 21],.ret]) .skip]),r [m 14 5,u 15 .add 14 1,m 5 15]])=y}).1
def k174:zab:=(⟨_,by first|(simp only[nf];exact rfl)|rfl⟩:{y//(⟨24,(q [r [o 2 (.box 3 (t 0)),M 4 (n 0)],q [r [m 6 1,u 7 .lss 6 1,m 8 7,
 h 9 8 false 1,g 10 8 false (.bin .gtr (t 9) (c (n 65533))),p 11 8 10],k 11 (q [r [M 4 (n (-1))],.ret]) .skip],q [r [M 5 (n 0)],.block 0
 (.loop b174_0)],r [m 22 1,u 23 .add 22 2,m 4 23],.ret]),[(.t 4)]⟩:zab)=y}).1
def b175_0:zah:=(⟨_,by first|(simp only[nf];exact rfl)|rfl⟩:{y//(.block 1 (q [r [m 12 7,o 13 (.bin .mul (c (n 2)) (t 12)),u 14 .add 13 1,m 8 14],
 q [r [m 15 8,m 16 2,v 17 .geq 15 16,m 18 17,h 19 18 false 8,g 20 18 false (.bin .lss (t 19) (c (n 0))),p 21 18 20],k 21 (.exit 0) .skip],r [m 22 8,
 m 9 22],q [r [m 23 8,u 24 .add 23 1,m 10 24],r [m 25 10,m 26 2,v 27 .lss 25 26,m 28 27,h 29 28 true 0,h 30 28 true 10,h 31 28 true 8,g 32 28 true
 (.inv (t 29) "Less" [(t 30),(t 31)]),a 33 28 32],k 33 (r [m 34 10,m 9 34]) .skip],q [r [m 35 0,m 36 9,m 37 7,o 38 (.inv (t 35) "Less" [(t 36),
 (t 37)]),o 39 (.un .not (t 38))],k 39 (.exit 0) .skip],r [m 40 0,m 41 7,m 42 9,o 43 (.inv (t 40) "Swap" [(t 41),(t 42)])],r [m 44 9,m 7 44]]))=y}).1
def k175:zab:=(⟨_,by first|(simp only[nf];exact rfl)|rfl⟩:{y//(⟨48,(q [r [M 6 F],r [m 11 1,m 7 11],.block 0 (.loop b175_0),r [m 45 7,m 46 1,
 v 47 .gtr 45 46,m 6 47],.ret]),[(.t 6)]⟩:zab)=y}).1
def b176_0:zah:=(⟨_,by first|(simp only[nf];exact rfl)|rfl⟩:{y//(.block 1 (q [r [m 5 1,u 6 .sub 5 1,u 7 .quo 6 2,m 4 7],q [r [m 8 4,m 9 1,
 v 10 .eql 8 9,m 11 10,h 12 11 false 0,h 13 11 false 1,h 14 11 false 4,g 15 11 false (.inv (t 12) "Less" [(t 13),(t 14)]),g 16 11 false (.un .not
 (t 15)),p 17 11 16],k 17 (.exit 0) .skip],r [m 18 0,m 19 4,m 20 1,o 21 (.inv (t 18) "Swap" [(t 19),(t 20)])],r [m 22 4,m 1 22]]))=y}).1
def k176:zab:=(⟨_,by first|(simp only[nf];exact rfl)|rfl⟩:{y//(⟨23,(.block 0 (.loop b176_0)),[]⟩:zab)=y}).1
def k179:zab:=(⟨_,by first|(simp only[nf];exact rfl)|rfl⟩:{y//(⟨10,(q [r [M 2 (n 0)],q [r [m 3 0,o 4 (.eqv .ptr false (t 3) (c P))],k 4 (q [r [M 2
 (n 0)],.ret]) .skip],r [m 5 0,o 6 (.nck (t 5)),f 7 0 6,l 8 7,o 9 (.lenS (t 8)),m 2 9],.ret]),[(.t 2)]⟩:zab)=y}).1
def k180:zab:=(⟨_,by first|(simp only[nf];exact rfl)|rfl⟩:{y//(⟨9,(q [r [M 2 F],r [m 3 0,u 4 .geq 3 1,m 5 4,h 6 5 true 0,g 7 5 true (.bin .leq
 (t 6) (c (n 65533))),a 8 5 7,m 2 8],.ret]),[(.t 2)]⟩:zab)=y}).1
def b181_0:zah:=(⟨_,by first|(simp only[nf];exact rfl)|rfl⟩:{y//(q [r [v 9 .lss 8 7],k 9 .skip (.exit 0),.block 1 (q [r [m 10 8,m 5 10],r [m 11 1,
 m 12 0,m 13 5,e 14 1 12 13,l 15 14,v 16 .eql 11 15],k 16 (q [r [m 17 5,m 4 17],.ret]) .skip]),r [u 18 .add 8 1,m 8 18]])=y}).1
def k181:zab:=(⟨_,by first|(simp only[nf];exact rfl)|rfl⟩:{y//(⟨19,(q [r [M 4 (n 0)],q [r [m 6 0,L 7 6,M 8 (n 0)],.block 0 (.loop b181_0)],r [M 4
 (n (-1))],.ret]),[(.t 4)]⟩:zab)=y}).1
def k182:zab:=(⟨_,by first|(simp only[nf];exact rfl)|rfl⟩:{y//(⟨17,(q [r [o 3 (.box 3 (t 0)),o 6 (.alloc 3 [(.int .i64 0),(.int .i64 0),
 (.int .i64 0)])],r [o 8 (.ldn 3 (t 3)),o 7 (.alloc 3 [(.int .i64 0),(.int .i64 0),(.int .i64 0)]),O (.stn 3 (t 7) (t 8))],r [o 9 (.sla 3 3 1 (t 7)
 (some (c (n 1))) none),m 10 1,o 11 (.mn (t 10) [(c (n 2))]),o 12 (.sla 3 3 1 (t 3) none (some (t 11))),o 13 (.cpy 3 1 (t 9) (t 12))],r [m 14 2,o 15
 (.iada 3 1 (t 7) (c (n 0))),O (.st (t 15) (t 14))],r [o 16 (.ldn 3 (t 7)),O (.stn 3 (t 6) (t 16))],.ret]),[(.cn 6 3)]⟩:zab)=y}).1
def k183:zab:=(⟨_,by first|(simp only[nf];exact rfl)|rfl⟩:{y//(⟨19,(q [r [M 2 (n 0)],q [r [m 3 0,o 4 (.bin .geq (t 3) (c (.int .u32 65536)))],k 4
 (q [r [m 5 0,o 6 (.bin .shr (t 5) (c (N 16))),m 0 6],r [M 2 (n 16)]]) .skip],q [r [m 7 0,o 8 (.bin .geq (t 7) (c (.int .u32 256)))],k 8 (q [r [m 9 0,
 o 10 (.bin .shr (t 9) (c (N 8))),m 0 10],r [m 11 2,u 12 .add 11 8,m 2 12]]) .skip],r [m 13 2,m 14 0,o 15 (.cvt .u8 (t 14)),o 16 (.idS (c (.string
 (bs [0,1,2,2,3,3,3,3,4,4,4,4,4,4,4,4,5,5,5,5,5,5,5,5,5,5,5,5,5,5,5,5,6,6,6,6,6,6,6,6,6,6,6,6,6,6,6,6,
  6,6,6,6,6,6,6,6,6,6,6,6,6,6,6,6,7,7,7,7,7,7,7,7,7,7,7,7,7,7,7,7,7,7,7,7,7,7,7,7,7,7,7,7,7,7,7,7,7,
  7,7,7,7,7,7,7,7,7,7,7,7,7,7,7,7,7,7,7,7,7,7,7,7,7,7,7,7,7,7,7,8,8,8,8,8,8,8,8,8,8,8,8,8,8,8,8,8,8,
  8,8,8,8,8,8,8,8,8,8,8,8,8,8,8,8,8,8,8,8,8,8,8,8,8,8,8,8,8,8,8,8,8,8,8,8,8,8,8,8,8,8,8,8,8,8,8,8,8,
  8,8,8,8,8,8,8,8,8,8,8,8,8,8,8,8,8,8,8,8,8,8,8,8,8,8,8,8,8,8,8,8,8,8,8,8,8,8,8,8,8,8,8,8,8,8,8,8,8,
  8,8,8,8,8,8,8,8,8,8,8,8]))) (t 15)),o 17 (.cvt .i64 (t 16)),v 18 .add 13 17,m 2 18],.ret]),[(.t 2)]⟩:zab)=y}).1
def b187_1:zah:=(⟨_,by first|(simp only[nf];exact rfl)|rfl⟩:{y//(q [r [v 37 .lss 36 35],k 37 .skip (.exit 0),.block 1 (q [r [m 38 36,e 39 1 34 36,
 l 40 39,m 9 38,m 10 40],r [m 41 7,o 42 (.nck (t 41)),f 43 3 42,l 44 43,m 45 9,m 46 8,e 47 1 44 45,O (.st (t 47) (t 46))],r [m 48 8,m 49 10,
 v 50 .add 48 49,m 8 50]]),r [u 51 .add 36 1,m 36 51]])=y}).1
def b187_0:zah:=(⟨_,by first|(simp only[nf];exact rfl)|rfl⟩:{y//(q [r [v 60 .lss 59 58],k 60 .skip (.exit 2),.block 3 (q [r [m 61 59,e 62 1 57 59,
 l 63 62,m 12 61,m 13 63],r [m 64 0,m 65 13,e 66 1 64 65,l 67 66,m 68 11,m 69 13,e 70 1 68 69,l 71 70,v 72 .add 67 71,m 14 72],r [m 73 7,o 74 (.nck
 (t 73)),f 75 4 74,l 76 75,m 77 7,o 78 (.nck (t 77)),f 79 3 78,l 80 79,m 81 13,e 82 1 80 81,l 83 82,m 84 11,m 85 13,e 86 1 84 85,l 87 86,
 v 88 .add 83 87,m 89 12,e 90 1 76 88,O (.st (t 90) (t 89))],r [m 91 11,m 92 13,e 93 1 91 92,l 94 93,u 95 .add 94 1,e 96 1 91 92,O (.st (t 96)
 (t 95))],r [m 97 1,m 98 14,o 99 (.cvt .u32 (t 98)),C 100 148 [(t 99)],v 101 .sub 97 100,u 102 .add 101 1,m 15 102],r [m 103 7,o 104 (.nck (t 103)),
 f 105 1 104,l 106 105,m 107 12,m 108 13,m 109 15,m 110 14,m 111 15,v 112 .shl 110 111,m 113 6,v 114 .sub 112 113,o 115 (.build [(.int .u8 0),
 (.int .i64 0),(.int .i64 0)] [(0,(1,(t 108))),(1,(1,(t 109))),(2,(1,(t 114)))]),e 116 3 106 107,O (.stn 3 (t 116) (t 115))]]),r [u 117 .add 59 1,
 m 59 117]])=y}).1
def k187:zab:=(⟨_,by first|(simp only[nf];exact rfl)|rfl⟩:{y//(⟨119,(q [r [M 4 P,M 5 F],q [r [m 16 0,m 17 1,C 18 221 [(t 16),(t 17)],o 19 (.un .not
 (t 18))],k 19 (q [r [M 4 P,M 5 F],.ret]) .skip],r [m 20 1,o 21 (.bin .shl (c (n 1)) (t 20)),m 6 21],r [m 22 1,m 23 6,m 25 0,m 27 0,L 28 27,m 30 6,
 o 26 (.app 3 1 8 (c Z) (t 25)),o 24 (.mks 282 [(.int .u8 0),(.int .i64 0),(.int .i64 0)] 24 (t 23) (t 23)),o 29 (.mks 3 [(.int .i64 0)] 8 (t 28)
 (t 28)),o 31 (.mks 3 [(.int .i64 0)] 8 (t 30) (t 30)),o 32 (.build [(.int .i64 0),(.slice none 0 0),(.slice none 0 0),(.slice none 0 0),
 (.slice none 0 0)] [(0,(1,(t 22))),(1,(1,(t 24))),(2,(1,(t 26))),(3,(1,(t 29))),(4,(1,(t 31)))]),o 33 (.box 279 (t 32)),m 7 33],r [M 8 (n 0)],
 q [r [m 34 0,L 35 34,M 36 (n 0)],.block 0 (.loop b187_1)],r [m 52 0,L 53 52,o 54 (.mks 3 [(.int .i64 0)] 8 (t 53) (t 53)),m 11 54],q [r [m 55 0,
 m 56 6,C 57 224 [(t 55),(t 56)],L 58 57,M 59 (n 0)],.block 2 (.loop b187_0)],r [m 118 7,m 4 118,M 5 T],.ret]),[(.t 4),(.t 5)]⟩:zab)=y}).1
def b189_0:zah:=(⟨_,by first|(simp only[nf];exact rfl)|rfl⟩:{y//(q [r [v 11 .lss 10 9],k 11 .skip (.exit 0),.block 1 (q [r [e 12 1 8 10,l 13 12,
 m 4 13],r [m 14 4,u 15 .lss 14 0,m 16 15,h 17 16 false 4,g 18 16 false (.bin .gtr (t 17) (c (n 1048576))),p 19 16 18],k 19 (q [r [M 2 F],
 .ret]) .skip]),r [u 20 .add 10 1,m 10 20]])=y}).1
def k189:zab:=(⟨_,by first|(simp only[nf];exact rfl)|rfl⟩:{y//(⟨24,(q [r [M 2 F],q [r [m 5 0,L 6 5,u 7 .gtr 6 256],k 7 (q [r [M 2 F],.ret]) .skip],
 q [r [m 8 0,L 9 8,M 10 (n 0)],.block 0 (.loop b189_0)],r [m 21 0,C 22 217 [(t 21)],u 23 .gtr 22 0,m 2 23],.ret]),[(.t 2)]⟩:zab)=y}).1
def b190_1:zah:=(⟨_,by first|(simp only[nf];exact rfl)|rfl⟩:{y//(q [r [v 17 .lss 16 15],k 17 .skip (.exit 0),.block 1 (q [r [m 18 16,e 19 1 14 16,
 l 20 19,m 5 18,m 6 20],r [m 21 6,u 22 .gtr 21 0],k 22 (r [m 23 4,m 24 4,o 25 (.nck (t 24)),l 26 25,m 27 6,m 28 5,m 29 5,o 30 (.build [(.int .i64 0),
 (.int .i64 0),(.int .i64 0),(.pointer none),(.pointer none)] [(0,(1,(t 27))),(1,(1,(t 28))),(2,(1,(t 29)))]),o 31 (.box 256 (t 30)),o 32
 (.bsl 252 1 [(.pointer none)] [(0,(1,(t 31)))]),o 33 (.app 252 1 8 (t 26) (t 32)),o 34 (.nck (t 23)),O (.st (t 34) (t 33))]) .skip]),
 r [u 35 .add 16 1,m 16 35]])=y}).1
def b190_0:zah:=(⟨_,by first|(simp only[nf];exact rfl)|rfl⟩:{y//(q [q [r [m 39 4,o 40 (.nck (t 39)),l 41 40,C 42 229 [(t 41)],u 43 .gtr 42 1],
 k 43 .skip (.exit 2)],.block 3 (q [r [m 46 4,C 47 230 [(t 46)],m 48 4,C 49 230 [(t 48)],m 9 47,m 10 49],r [m 50 9,o 51 (.nck (t 50)),f 52 0 51,
 l 53 52,m 54 10,o 55 (.nck (t 54)),f 56 0 55,l 57 56,v 58 .add 53 57,m 59 8,m 60 9,m 61 10,o 62 (.build [(.int .i64 0),(.int .i64 0),(.int .i64 0),
 (.pointer none),(.pointer none)] [(0,(1,(t 58))),(1,(1,(t 59))),(2,(1,(c (n (-1))))),(3,(1,(t 60))),(4,(1,(t 61)))]),o 63 (.box 256 (t 62)),m 11 63],
 r [m 64 7,m 65 11,o 66 (.nck (t 65)),f 67 0 66,l 68 67,v 69 .add 64 68,m 7 69],r [m 70 4,o 71 (.mki 285 (t 70)),m 72 11,o 73 (.mki 252 (t 72)),
 C 74 141 [(t 71),(t 73)]]]),r [m 44 8,u 45 .add 44 1,m 8 45]])=y}).1
def k190:zab:=(⟨_,by first|(simp only[nf];exact rfl)|rfl⟩:{y//(⟨78,(q [r [M 2 P,M 3 (n 0)],r [o 12 (.bsl 252 0 [] []),o 13 (.box 287 (t 12)),
 m 4 13],q [r [m 14 0,L 15 14,M 16 (n 0)],.block 0 (.loop b190_1)],r [m 36 4,o 37 (.mki 285 (t 36)),C 38 138 [(t 37)]],r [M 7 (n 0)],q [r [M 8
 (n 256)],.block 2 (.loop b190_0)],r [m 75 4,C 76 230 [(t 75)],m 77 7,m 2 76,m 3 77],.ret]),[(.t 2),(.t 3)]⟩:zab)=y}).1
def k191:zab:=(⟨_,by first|(simp only[nf];exact rfl)|rfl⟩:{y//(⟨34,(q [q [r [m 6 0,o 7 (.nck (t 6)),f 8 2 7,l 9 8,u 10 .geq 9 0],k 10 (q [r [m 11 2,
 m 12 0,o 13 (.nck (t 12)),f 14 2 13,l 15 14,m 16 1,o 17 (.callv (t 11) [(t 15),(t 16)])],.ret]) .skip],r [m 18 0,o 19 (.nck (t 18)),f 20 3 19,
 l 21 20,m 22 1,u 23 .add 22 1,m 24 2,C 25 191 [(t 21),(t 23),(t 24)]],r [m 26 0,o 27 (.nck (t 26)),f 28 4 27,l 29 28,m 30 1,u 31 .add 30 1,m 32 2,
 C 33 191 [(t 29),(t 31),(t 32)]]]),[]⟩:zab)=y}).1
def k192:zab:=(⟨_,by first|(simp only[nf];exact rfl)|rfl⟩:{y//(⟨13,(q [r [l 6 2,m 7 0,m 8 1,e 9 1 6 7,O (.st (t 9) (t 8))],r [l 10 3,m 11 1,o 12
 (.mx (t 10) [(t 11)]),O (.st (t 3) (t 12))]]),[]⟩:zab)=y}).1
def b194_0:zah:=(⟨_,by first|(simp only[nf];exact rfl)|rfl⟩:{y//(q [r [v 14 .lss 13 12],k 14 .skip (.exit 0),.block 1 (q [r [e 15 1 11 13,l 16 15,
 m 7 16],r [m 17 7,u 18 .gtr 17 0],k 18 (q [r [m 19 3,m 20 7,o 21 (.bin .sub (c (n 11)) (t 20)),o 22 (.bin .shl (c (n 1)) (t 21)),v 23 .sub 19 22,
 m 3 23],r [m 24 4,u 25 .add 24 1,m 4 25],r [m 26 7,u 27 .eql 26 1,m 5 27]]) .skip]),r [u 28 .add 13 1,m 13 28]])=y}).1
def k194:zab:=(⟨_,by first|(simp only[nf];exact rfl)|rfl⟩:{y//(⟨38,(q [r [M 2 F],q [r [m 8 0,C 9 234 [(t 8)],o 10 (.un .not (t 9))],k 10
 (q [r [M 2 F],.ret]) .skip],r [M 3 (n 2048),M 4 (n 0),M 5 F],q [r [m 11 0,L 12 11,M 13 (n 0)],.block 0 (.loop b194_0)],r [m 29 3,u 30 .eql 29 0,
 m 31 30,h 32 31 false 4,g 33 31 false (.bin .eql (t 32) (c (n 1))),h 34 31 false 33,h 35 34 true 5,g 36 31 false (.pick (t 34) (t 35) (c F)),
 p 37 31 36,m 2 37],.ret]),[(.t 2)]⟩:zab)=y}).1
def b195_0:zah:=(⟨_,by first|(simp only[nf];exact rfl)|rfl⟩:{y//(q [q [r [m 6 3,u 7 .gtr 6 0,m 8 7,h 9 8 true 0,h 10 8 true 3,g 11 8 true
 (.bin .sub (t 10) (c (n 1))),g 12 8 true (.iad 1 (t 9) (t 11)),g 13 8 true (.ld (t 12)),g 14 8 true (.bin .eql (t 13) (c (n 0))),a 15 8 14],
 k 15 .skip (.exit 0)],.block 1 (r [m 16 3,u 17 .sub 16 1,m 3 17])])=y}).1
def k195:zab:=(⟨_,by first|(simp only[nf];exact rfl)|rfl⟩:{y//(⟨21,(q [r [M 2 Z],r [m 4 0,L 5 4,m 3 5],.block 0 (.loop b195_0),r [m 18 0,m 19 3,
 o 20 (.slc 3 1 (t 18) none (some (t 19))),m 2 20],.ret]),[(.t 2)]⟩:zab)=y}).1
def b196_1:zah:=(⟨_,by first|(simp only[nf];exact rfl)|rfl⟩:{y//(q [r [v 22 .lss 21 20],k 22 .skip (.exit 2),.block 3 (q [r [m 23 21,e 24 1 19 21,
 l 25 24,m 7 23,m 8 25],r [m 26 8,m 27 6,v 28 .eql 26 27],k 28 (q [r [m 29 4,m 30 7,m 31 5,e 32 1 29 30,O (.st (t 32) (t 31))],r [m 33 5,
 u 34 .add 33 1,m 5 34]]) .skip]),r [u 35 .add 21 1,m 21 35]])=y}).1
def b196_0:zah:=(⟨_,by first|(simp only[nf];exact rfl)|rfl⟩:{y//(q [q [r [m 15 6,u 16 .leq 15 11],k 16 .skip (.exit 0)],.block 1 (q [q [r [m 19 0,
 L 20 19,M 21 (n 0)],.block 2 (.loop b196_1)],r [m 36 5,o 37 (.bin .shl (t 36) (c (N 1))),m 5 37]]),r [m 17 6,u 18 .add 17 1,m 6 18]])=y}).1
def k196:zab:=(⟨_,by first|(simp only[nf];exact rfl)|rfl⟩:{y//(⟨39,(q [r [M 2 Z,M 3 F],q [r [m 9 0,C 10 194 [(t 9)],o 11 (.un .not (t 10))],k 11
 (q [r [M 2 Z,M 3 F],.ret]) .skip],r [m 12 0,L 13 12,o 14 (.mks 3 [(.int .i64 0)] 8 (t 13) (t 13)),m 4 14],r [M 5 (n 0)],q [r [M 6 (n 1)],.block 0
 (.loop b196_0)],r [m 38 4,m 2 38,M 3 T],.ret]),[(.t 2),(.t 3)]⟩:zab)=y}).1
def b197_0:zah:=(⟨_,by first|(simp only[nf];exact rfl)|rfl⟩:{y//(q [r [v 8 .lss 7 6],k 8 .skip (.exit 0),.block 1 (q [r [m 9 5,o 10 (.bin .shl
 (t 9) (c (N 1))),m 11 0,u 12 .and 11 1,o 13 (.cvt .u32 (t 12)),v 14 .or 10 13,m 5 14],r [m 15 0,o 16 (.bin .shr (t 15) (c (N 1))),m 0 16]]),
 r [u 17 .add 7 1,m 7 17]])=y}).1
def k197:zab:=(⟨_,by first|(simp only[nf];exact rfl)|rfl⟩:{y//(⟨19,(q [r [M 4 (.int .u32 0)],r [M 5 (.int .u32 0)],q [r [m 6 1,M 7 (n 0)],.block 0
 (.loop b197_0)],r [m 18 5,m 4 18],.ret]),[(.t 4)]⟩:zab)=y}).1
def b198_0:zah:=(⟨_,by first|(simp only[nf];exact rfl)|rfl⟩:{y//(q [r [v 27 .lss 26 25],k 27 .skip (.exit 0),.block 1 (q [r [e 28 1 24 26,l 29 28,
 m 8 29],r [m 30 6,m 31 8,o 32 (.bin .and (t 31) (c (.int .u8 15))),o 33 (.cvt .i64 (t 32)),m 34 8,o 35 (.bin .shr (t 34) (c (N 4))),o 36 (.cvt .i64
 (t 35)),o 37 (.bsl 3 2 [(.int .i64 0),(.int .i64 0)] [(0,(1,(t 33))),(1,(1,(t 36)))]),o 38 (.app 3 1 8 (t 30) (t 37)),m 6 38]]),r [u 39 .add 26 1,
 m 26 39]])=y}).1
def k198:zab:=(⟨_,by first|(simp only[nf];exact rfl)|rfl⟩:{y//(⟨69,(q [r [M 2 Z,M 3 F],r [m 9 0,C 10 82 [(t 9),(c (n 1))],o 11 (.cvt .i64 (t 10)),
 u 12 .add 11 1,m 4 12],r [m 13 0,m 14 4,u 15 .add 14 1,u 16 .quo 15 2,C 17 83 [(t 13),(t 16)],m 5 17],q [r [m 18 0,C 19 61 [(t 18)]],k 19
 (q [r [M 2 Z,M 3 F],.ret]) .skip],r [m 20 4,u 21 .add 20 1,o 22 (.mks 3 [(.int .i64 0)] 8 (c (n 0)) (t 21)),m 6 22],q [r [m 23 5,o 24 (.s2b 5
 (t 23)),L 25 24,M 26 (n 0)],.block 0 (.loop b198_0)],q [r [m 40 6,L 41 40,m 42 4,v 43 .gtr 41 42,m 44 43,h 45 44 true 6,h 46 44 true 4,g 47 44 true
 (.iad 1 (t 45) (t 46)),g 48 44 true (.ld (t 47)),g 49 44 true (.bin .neq (t 48) (c (n 0))),a 50 44 49,m 51 50,h 52 51 false 6,h 53 51 false 4,
 g 54 51 false (.bin .sub (t 53) (c (n 1))),g 55 51 false (.iad 1 (t 52) (t 54)),g 56 51 false (.ld (t 55)),g 57 51 false (.bin .eql (t 56) (c
 (n 0))),p 58 51 57,m 59 58,h 60 59 false 6,h 61 59 false 4,g 62 59 false (.slc 3 1 (t 60) none (some (t 61))),g 63 59 false (.call 194 [(t 62)]),
 g 64 59 false (.un .not (t 63)),p 65 59 64],k 65 (q [r [M 2 Z,M 3 F],.ret]) .skip],r [m 66 6,m 67 4,o 68 (.slc 3 1 (t 66) none (some (t 67))),m 2 68,
 M 3 T],.ret]),[(.t 2),(.t 3)]⟩:zab)=y}).1
def b199_0:zah:=(⟨_,by first|(simp only[nf];exact rfl)|rfl⟩:{y//(q [r [v 34 .lss 33 32],k 34 .skip (.exit 0),.block 1 (q [r [m 36 8,m 37 9,
 C 38 236 [(t 36),(t 37)],m 35 38,x 39 35 0,x 40 35 1,m 11 39,m 12 40],q [r [m 41 12,o 42 (.un .not (t 41))],k 42 (q [r [M 6 Z,M 7 F],.ret]) .skip],
 r [m 43 10,m 44 11,o 45 (.bsl 5 1 [(.int .u8 0)] [(0,(1,(t 44)))]),o 46 (.app 5 1 1 (t 43) (t 45)),m 10 46]]),r [u 47 .add 33 1,m 33 47]])=y}).1
def k199:zab:=(⟨_,by first|(simp only[nf];exact rfl)|rfl⟩:{y//(⟨64,(q [r [M 6 Z,M 7 F],q [r [m 16 0,C 17 194 [(t 16)],o 18 (.un .not (t 17)),
 m 19 18,h 20 19 false 2,g 21 19 false (.bin .lss (t 20) (c (n 0))),p 22 19 21,m 23 22,h 24 23 false 2,g 25 23 false (.bin .gtr (t 24) (c
 (n 1048576))),p 26 23 25],k 26 (q [r [M 6 Z,M 7 F],.ret]) .skip],r [m 27 0,C 28 235 [(t 27)],m 29 1,o 30 (.s2b 5 (t 29)),C 31 163 [(t 30)],m 8 28,
 m 9 31],r [M 10 Z],q [r [m 32 2,M 33 (n 0)],.block 0 (.loop b199_0)],r [m 48 9,C 49 206 [(t 48)],m 13 49],q [r [m 51 9,m 52 13,o 53 (.mn (t 52) [(c
 (n 8))]),C 54 207 [(t 51),(t 53)],m 50 54,x 55 50 0,x 56 50 1,m 14 55,m 15 56],r [m 57 13,u 58 .gtr 57 7,m 59 58,h 60 59 false 14,g 61 59 false
 (.bin .neq (t 60) (c (.int .u32 0))),p 62 59 61],k 62 (q [r [M 6 Z,M 7 F],.ret]) .skip],r [m 63 10,m 6 63,M 7 T],.ret]),[(.t 6),
 (.t 7)]⟩:zab)=y}).1
def b200_0:zah:=(⟨_,by first|(simp only[nf];exact rfl)|rfl⟩:{y//(q [q [r [m 34 8,m 35 7,L 36 35,v 37 .lss 34 36],k 37 .skip (.exit 0)],.block 1
 (r [m 38 8,m 39 7,m 40 8,o 41 (.slc 5 1 (t 39) (some (t 40)) none),m 42 7,m 43 8,o 44 (.slc 5 1 (t 42) none (some (t 43))),o 45 (.cpy 5 1 (t 41)
 (t 44)),v 46 .add 38 45,m 8 46])])=y}).1
def k200:zab:=(⟨_,by first|(simp only[nf];exact rfl)|rfl⟩:{y//(⟨48,(q [r [M 4 Z],q [r [m 9 1,u 10 .lss 9 0],k 10 (r [o 11 (.mki 9 (c (.string
 (bs [99,97,110,110,111,116,32,98,101,32,110,101,103,97,116,105,118,101])))),O .nev]) .skip],r [m 13 0,L 14 13,o 15 (.cvt .u64
 (t 14)),m 16 1,o 17 (.cvt .u64 (t 16)),C 18 120 [(t 15),(t 17)],m 12 18,x 19 12 0,x 20 12 1,m 5 19,m 6 20],q [r [m 21 5,o 22 (.bin .gtr (t 21) (c
 (N 0))),m 23 22,h 24 23 false 6,g 25 23 false (.bin .gtr (t 24) (c (N 9223372036854775807))),p 26 23 25],k 26 (r [o 27 (.mki 9 (c (.string (bs [116,
  104,101,32,114,101,115,117,108,116,32,111,102,32,40,108,101,110,40,120,41,32,42,32,99,111,117,110,116,41,32,111,118,
  101,114,102,108,111,119,115])))),O .nev]) .skip],r [m 28 6,o 29 (.cvt .i64 (t 28)),o 30 (.mks 5 [(.int .u8 0)] 1 (t 29) (t 29)),m 7 30],
 r [m 31 7,m 32 0,o 33 (.cpy 5 1 (t 31) (t 32)),m 8 33],.block 0 (.loop b200_0),r [m 47 7,m 4 47],.ret]),[(.t 4)]⟩:zab)=y}).1
def k201:zab:=(⟨_,by first|(simp only[nf];exact rfl)|rfl⟩:{y//(⟨49,(q [r [M 4 Z,M 5 F],r [m 14 0,C 15 91 [(t 14),(c (n 4096))],m 16 0,
 C 17 91 [(t 16),(c (n 4096))],m 6 15,m 7 17],q [r [m 18 0,C 19 61 [(t 18)]],k 19 (q [r [M 4 Z,M 5 F],.ret]) .skip],r [m 20 6,o 21 (.s2b 5 (t 20)),
 C 22 163 [(t 21)],m 8 22],r [m 24 8,C 25 237 [(t 24)],m 23 25,x 26 23 0,x 27 23 1,x 28 23 2,m 9 26,m 10 27,m 11 28],q [r [m 29 11,o 30 (.un .not
 (t 29)),m 31 30,h 32 31 false 8,g 33 31 false (.call 165 [(t 32)]),g 34 31 false (.un .not (t 33)),p 35 31 34],k 35 (q [r [M 4 Z,M 5 F],
 .ret]) .skip],r [m 37 9,m 38 10,C 39 187 [(t 37),(t 38)],m 36 39,x 40 36 0,x 41 36 1,m 12 40,m 13 41],r [m 42 12,m 43 7,o 44 (.s2b 5 (t 43)),m 45 1,
 C 46 238 [(t 42),(t 44),(t 45)],x 47 46 0,x 48 46 1,m 4 47,m 5 48],.ret]),[(.t 4),(.t 5)]⟩:zab)=y}).1
def k202:zab:=(⟨_,by first|(simp only[nf];exact rfl)|rfl⟩:{y//(⟨9,(q [r [M 4 F],r [m 5 0,m 6 1,C 7 239 [(t 5),(t 6)],u 8 .geq 7 0,m 4 8],.ret]),
 [(.t 4)]⟩:zab)=y}).1
def k203:zab:=(⟨_,by first|(simp only[nf];exact rfl)|rfl⟩:{y//(⟨5,(q [r [M 2 F],r [m 3 0,o 4 (.bin .geq (t 3) (c (.int .u8 28))),m 2 4],.ret]),
 [(.t 2)]⟩:zab)=y}).1
def k204:zab:=(⟨_,by first|(simp only[nf];exact rfl)|rfl⟩:{y//(⟨29,(q [r [M 4 (n 0),M 5 F],r [m 10 0,C 11 240 [(t 10)],m 9 11,x 12 9 0,x 13 9 1,
 m 6 12,m 7 13],q [r [m 14 7,o 15 (.un .not (t 14))],k 15 (q [r [M 4 (n 0),M 5 F],.ret]) .skip],r [m 17 1,m 18 6,C 19 207 [(t 17),(t 18)],m 16 19,
 x 20 16 0,x 21 16 1,m 8 20,m 7 21],q [r [m 22 7,o 23 (.un .not (t 22))],k 23 (q [r [M 4 (n 0),M 5 F],.ret]) .skip],r [m 24 0,m 25 8,C 26 241 [(t 24),
 (t 25)],x 27 26 0,x 28 26 1,m 4 27,m 5 28],.ret]),[(.t 4),(.t 5)]⟩:zab)=y}).1
def k205:zab:=(⟨_,by first|(simp only[nf];exact rfl)|rfl⟩:{y//(⟨43,(q [r [o 2 (.box 3 (t 0)),M 4 (n 0),o 5 (.alloc 3 [(.int .i64 0),(.int .i64 0),
 (.int .i64 0)]),M 6 F],q [r [m 11 1,u 12 .lss 11 0,m 13 12,h 14 13 false 1,g 15 13 false (.bin .gtr (t 14) (c (n 65535))),p 16 13 15],k 16
 (q [r [o 17 (.ldn 3 (t 2)),M 4 (n 0),O (.stn 3 (t 5) (t 17)),M 6 F],.ret]) .skip],r [m 18 1,u 19 .sub 18 3,u 20 .add 19 1,m 7 20],q [r [m 21 1,
 u 22 .lss 21 3],k 22 (r [m 23 1,o 24 (.iada 3 1 (t 2) (t 23)),l 25 24,m 7 25]) .skip],r [o 27 (.ldn 3 (t 2)),m 28 7,C 29 147 [(t 27),(t 28)],m 26 29,
 x 30 26 0,x 31 26 1,x 32 26 2,o 9 (.alloc 3 [(.int .i64 0),(.int .i64 0),(.int .i64 0)]),m 8 30,O (.stn 3 (t 9) (t 31)),m 10 32],q [r [m 33 10,o 34
 (.un .not (t 33)),m 35 34,h 36 35 false 8,h 37 35 false 1,g 38 35 false (.bin .neq (t 36) (t 37)),p 39 35 38],k 39 (q [r [o 40 (.ldn 3 (t 2)),M 4
 (n 0),O (.stn 3 (t 5) (t 40)),M 6 F],.ret]) .skip],r [m 41 7,o 42 (.ldn 3 (t 9)),m 4 41,O (.stn 3 (t 5) (t 42)),M 6 T],.ret]),[(.t 4),(.cn 5 3),
 (.t 6)]⟩:zab)=y}).1
def k206:zab:=(⟨_,by first|(simp only[nf];exact rfl)|rfl⟩:{y//(⟨16,(q [r [M 2 (n 0)],q [r [m 3 0,o 4 (.eqv .ptr false (t 3) (c P))],k 4 (q [r [M 2
 (n 0)],.ret]) .skip],r [m 5 0,o 6 (.nck (t 5)),f 7 0 6,l 8 7,L 9 8,o 10 (.bin .mul (c (n 8)) (t 9)),m 11 0,o 12 (.nck (t 11)),f 13 1 12,l 14 13,
 v 15 .sub 10 14,m 2 15],.ret]),[(.t 2)]⟩:zab)=y}).1
def b207_0:zah:=(⟨_,by first|(simp only[nf];exact rfl)|rfl⟩:{y//(q [q [r [m 24 7,m 25 1,v 26 .lss 24 25],k 26 .skip (.exit 0)],.block 1
 (q [r [m 27 0,o 28 (.nck (t 27)),f 29 1 28,l 30 29,u 31 .and 30 7,m 8 31],r [m 32 1,m 33 7,v 34 .sub 32 33,m 35 8,o 36 (.bin .sub (c (n 8)) (t 35)),
 o 37 (.mn (t 34) [(t 36)]),m 9 37],r [m 38 0,o 39 (.nck (t 38)),f 40 0 39,l 41 40,m 42 0,o 43 (.nck (t 42)),f 44 1 43,l 45 44,o 46 (.bin .shr (t 45)
 (c (N 3))),e 47 1 41 46,l 48 47,m 49 8,v 50 .shr 48 49,o 51 (.cvt .u32 (t 50)),m 52 9,o 53 (.bin .shl (c (.int .u32 1)) (t 52)),o 54 (.bin .sub
 (t 53) (c (.int .u32 1))),v 55 .and 51 54,m 10 55],r [m 56 6,m 57 10,m 58 7,v 59 .shl 57 58,v 60 .or 56 59,m 6 60],r [m 61 7,m 62 9,v 63 .add 61 62,
 m 7 63],r [m 64 0,o 65 (.nck (t 64)),f 66 1 65,l 67 66,m 68 9,v 69 .add 67 68,o 70 (.nck (t 64)),f 71 1 70,O (.st (t 71) (t 69))]])])=y}).1
def k207:zab:=(⟨_,by first|(simp only[nf];exact rfl)|rfl⟩:{y//(⟨73,(q [r [M 4 (.int .u32 0),M 5 F],q [r [m 11 0,o 12 (.eqv .ptr false (t 11) (c P)),
 m 13 12,h 14 13 false 1,g 15 13 false (.call 149 [(t 14)]),g 16 13 false (.un .not (t 15)),p 17 13 16,m 18 17,h 19 18 false 1,h 20 18 false 0,
 g 21 18 false (.call 206 [(t 20)]),g 22 18 false (.bin .gtr (t 19) (t 21)),p 23 18 22],k 23 (q [r [M 4 (.int .u32 0),M 5 F],.ret]) .skip],r [M 6
 (.int .u32 0)],q [r [M 7 (n 0)],.block 0 (.loop b207_0)],r [m 72 6,m 4 72,M 5 T],.ret]),[(.t 4),(.t 5)]⟩:zab)=y}).1
def b208_0:zah:=(⟨_,by first|(simp only[nf];exact rfl)|rfl⟩:{y//(q [r [v 8 .lss 7 6],k 8 .skip (.exit 0),.block 1 (r [m 9 0,m 10 0,o 11 (.nck
 (t 10)),f 12 0 11,l 13 12,m 14 0,o 15 (.nck (t 14)),f 16 0 15,l 17 16,m 18 0,o 19 (.nck (t 18)),f 20 0 19,l 21 20,L 22 21,m 23 1,v 24 .sub 22 23,
 e 25 1 17 24,l 26 25,o 27 (.bsl 5 1 [(.int .u8 0)] [(0,(1,(t 26)))]),(.chk 13 none (.ld (t 12))),o 28 (.app 5 1 1 (t 13) (t 27)),o 29 (.nck (t 9)),
 f 30 0 29,O (.st (t 30) (t 28))]),r [u 31 .add 7 1,m 7 31]])=y}).1
def k208:zab:=(⟨_,by first|(simp only[nf];exact rfl)|rfl⟩:{y//(⟨32,(q [r [m 6 2,M 7 (n 0)],.block 0 (.loop b208_0)]),[]⟩:zab)=y}).1
def b209_0:zah:=(⟨_,by first|(simp only[nf];exact rfl)|rfl⟩:{y//(q [q [r [m 4 3,m 5 0,L 6 5,v 7 .lss 4 6],k 7 .skip (.exit 0)],.block 1
 (q [r [m 10 0,m 11 3,e 12 1 10 11,l 13 12,u 14 .lss 13 0,m 15 14,h 16 15 false 0,h 17 15 false 3,g 18 15 false (.iad 1 (t 16) (t 17)),g 19 15 false
 (.ld (t 18)),g 20 15 false (.bin .gtr (t 19) (c (n 11))),p 21 15 20],k 21 (q [r [M 2 F],.ret]) .skip]),r [m 8 3,u 9 .add 8 1,m 3 9]])=y}).1
def k209:zab:=(⟨_,by first|(simp only[nf];exact rfl)|rfl⟩:{y//(⟨25,(q [r [M 2 F],q [r [M 3 (n 0)],.block 0 (.loop b209_0)],r [m 22 0,L 23 22,
 u 24 .leq 23 256,m 2 24],.ret]),[(.t 2)]⟩:zab)=y}).1
def b210_0:zah:=(⟨_,by first|(simp only[nf];exact rfl)|rfl⟩:{y//(q [q [r [m 6 3,u 7 .gtr 6 0,m 8 7,h 9 8 true 0,h 10 8 true 3,g 11 8 true
 (.bin .sub (t 10) (c (n 1))),g 12 8 true (.iad 1 (t 9) (t 11)),g 13 8 true (.ld (t 12)),g 14 8 true (.bin .eql (t 13) (c (n 0))),a 15 8 14],
 k 15 .skip (.exit 0)],.block 1 (r [m 16 3,u 17 .sub 16 1,m 3 17])])=y}).1
def k210:zab:=(⟨_,by first|(simp only[nf];exact rfl)|rfl⟩:{y//(⟨21,(q [r [M 2 Z],r [m 4 0,L 5 4,m 3 5],.block 0 (.loop b210_0),r [m 18 0,m 19 3,
 o 20 (.slc 3 1 (t 18) none (some (t 19))),m 2 20],.ret]),[(.t 2)]⟩:zab)=y}).1
def b211_1:zah:=(⟨_,by first|(simp only[nf];exact rfl)|rfl⟩:{y//(q [q [r [m 21 6,m 22 0,L 23 22,v 24 .lss 21 23],k 24 .skip (.exit 2)],.block 3
 (q [r [m 27 0,m 28 6,e 29 1 27 28,l 30 29,u 31 .gtr 30 0,m 32 31,h 33 32 true 0,h 34 32 true 6,g 35 32 true (.iad 1 (t 33) (t 34)),g 36 32 true (.ld
 (t 35)),h 37 32 true 0,h 38 32 true 4,g 39 32 true (.iad 1 (t 37) (t 38)),g 40 32 true (.ld (t 39)),g 41 32 true (.bin .lss (t 36) (t 40)),
 h 42 32 true 41,h 43 42 false 0,h 44 42 false 6,g 45 42 false (.iad 1 (t 43) (t 44)),g 46 42 false (.ld (t 45)),h 47 42 false 0,h 48 42 false 4,
 g 49 42 false (.iad 1 (t 47) (t 48)),g 50 42 false (.ld (t 49)),g 51 42 false (.bin .eql (t 46) (t 50)),h 52 42 false 51,h 53 52 true 6,
 h 54 52 true 4,g 55 52 true (.bin .lss (t 53) (t 54)),g 56 42 false (.pick (t 52) (t 55) (c F)),g 57 32 true (.pick (t 42) (c T) (t 56)),a 58 32 57],
 k 58 (r [m 59 5,m 60 0,m 61 6,e 62 1 60 61,l 63 62,o 64 (.bin .sub (c (n 11)) (t 63)),C 65 132 [(t 64)],v 66 .add 59 65,m 5 66]) .skip]),r [m 25 6,
 u 26 .add 25 1,m 6 26]])=y}).1
def b211_0:zah:=(⟨_,by first|(simp only[nf];exact rfl)|rfl⟩:{y//(q [q [r [m 10 4,m 11 0,L 12 11,v 13 .lss 10 12],k 13 .skip (.exit 0)],.block 1
 (q [q [r [m 16 0,m 17 4,e 18 1 16 17,l 19 18,u 20 .eql 19 0],k 20 (.exit 1) .skip],r [M 5 (n 0)],q [r [M 6 (n 0)],.block 2 (.loop b211_1)],r [m 67 3,
 m 68 4,m 69 5,m 70 0,m 71 4,e 72 1 70 71,l 73 72,o 74 (.bin .sub (c (n 11)) (t 73)),C 75 132 [(t 74)],v 76 .quo 69 75,e 77 1 67 68,O (.st (t 77)
 (t 76))]]),r [m 14 4,u 15 .add 14 1,m 4 15]])=y}).1
def k211:zab:=(⟨_,by first|(simp only[nf];exact rfl)|rfl⟩:{y//(⟨79,(q [r [M 2 Z],r [m 7 0,L 8 7,o 9 (.mks 3 [(.int .i64 0)] 8 (t 8) (t 8)),m 3 9],
 q [r [M 4 (n 0)],.block 0 (.loop b211_0)],r [m 78 3,m 2 78],.ret]),[(.t 2)]⟩:zab)=y}).1
def b212_0:zah:=(⟨_,by first|(simp only[nf];exact rfl)|rfl⟩:{y//(q [q [r [m 23 8,u 24 .gtr 23 0],k 24 .skip (.exit 0)],.block 1 (q [r [m 25 8,o 26
 (.cvt .u32 (t 25)),C 27 242 [(t 26)],m 9 27],q [r [m 28 7,m 29 9,v 30 .add 28 29,m 31 0,L 32 31,v 33 .gtr 30 32,m 34 33,h 35 34 false 6,
 g 36 34 false (.lenL (t 35)),g 37 34 false (.bin .eql (t 36) (c (n 256))),p 38 34 37],k 38 (q [r [M 2 Z,M 3 (n 0),M 4 (n 0)],.ret]) .skip],r [m 39 0,
 m 40 7,m 41 7,m 42 9,v 43 .add 41 42,o 44 (.slc 3 1 (t 39) (some (t 40)) (some (t 43))),C 45 133 [(t 44)],o 46 (.cvt .i64 (t 45)),m 10 46],r [m 47 7,
 m 48 9,v 49 .add 47 48,m 7 49],q [r [m 50 10,m 51 8,v 52 .gtr 50 51],k 52 (q [r [M 2 Z,M 3 (n 0),M 4 (n 0)],.ret]) .skip],r [m 53 6,m 54 10,o 55
 (.bsl 3 1 [(.int .i64 0)] [(0,(1,(t 54)))]),o 56 (.app 3 1 8 (t 53) (t 55)),m 6 56],r [m 57 8,m 58 10,v 59 .sub 57 58,m 8 59]])])=y}).1
def k212:zab:=(⟨_,by first|(simp only[nf];exact rfl)|rfl⟩:{y//(⟨63,(q [r [M 2 Z,M 3 (n 0),M 4 (n 0)],q [r [m 11 0,L 12 11,u 13 .lss 12 3],k 13
 (q [r [M 2 Z,M 3 (n 0),M 4 (n 0)],.ret]) .skip],r [m 14 0,o 15 (.slc 3 1 (t 14) none (some (c (n 3)))),C 16 133 [(t 15)],o 17 (.cvt .i64 (t 16)),
 o 18 (.bin .add (c (n 5)) (t 17)),m 5 18],q [r [m 19 5,u 20 .gtr 19 9],k 20 (q [r [M 2 Z,M 3 (n 0),M 4 (n 0)],.ret]) .skip],r [M 6 Z],r [M 7 (n 3)],
 r [m 21 5,C 22 132 [(t 21)],m 8 22],.block 0 (.loop b212_0),r [m 60 6,m 61 5,m 62 7,m 2 60,m 3 61,m 4 62],.ret]),[(.t 2),(.t 3),
 (.t 4)]⟩:zab)=y}).1
def b213_0:zah:=(⟨_,by first|(simp only[nf];exact rfl)|rfl⟩:{y//(q [q [r [m 18 6,m 19 0,L 20 19,v 21 .lss 18 20],k 21 .skip (.exit 0)],.block 1
 (q [q [r [m 24 0,m 25 6,e 26 1 24 25,l 27 26,u 28 .lss 27 0,m 29 28,h 30 29 false 0,h 31 29 false 6,g 32 29 false (.iad 1 (t 30) (t 31)),
 g 33 29 false (.ld (t 32)),g 34 29 false (.bin .gtr (t 33) (c (n 1000))),p 35 29 34],k 35 (q [r [M 4 F],.ret]) .skip],r [m 36 5,m 37 0,m 38 6,
 e 39 1 37 38,l 40 39,v 41 .add 36 40,m 5 41]]),r [m 22 6,u 23 .add 22 1,m 6 23]])=y}).1
def k213:zab:=(⟨_,by first|(simp only[nf];exact rfl)|rfl⟩:{y//(⟨46,(q [r [M 4 F],q [r [m 7 1,u 8 .lss 7 5,m 9 8,h 10 9 false 1,g 11 9 false
 (.bin .gtr (t 10) (c (n 9))),p 12 9 11,m 13 12,h 14 13 false 0,g 15 13 false (.lenL (t 14)),g 16 13 false (.bin .gtr (t 15) (c (n 256))),p 17 13 16],
 k 17 (q [r [M 4 F],.ret]) .skip],r [M 5 (n 0)],q [r [M 6 (n 0)],.block 0 (.loop b213_0)],r [m 42 5,m 43 1,C 44 132 [(t 43)],v 45 .eql 42 44,m 4 45],
 .ret]),[(.t 4)]⟩:zab)=y}).1
def b214_0:zah:=(⟨_,by first|(simp only[nf];exact rfl)|rfl⟩:{y//(q [q [r [m 52 14,m 53 3,v 54 .lss 52 53],k 54 .skip (.exit 0)],.block 1
 (q [r [m 57 0,m 58 12,e 59 3 57 58,o 60 (.ldn 3 (t 59)),o 15 (.alloc 282 [(.int .u8 0),(.int .i64 0),(.int .i64 0)]),O (.stn 3 (t 15) (t 60))],
 q [r [m 61 10,L 62 61,f 63 1 15,l 64 63,v 65 .lss 62 64],k 65 (q [r [M 8 Z,M 9 F],.ret]) .skip],r [m 66 10,L 67 66,f 68 1 15,l 69 68,v 70 .sub 67 69,
 m 16 70],r [m 71 13,f 72 0 15,l 73 72,o 74 (.bsl 5 1 [(.int .u8 0)] [(0,(1,(t 73)))]),o 75 (.app 5 1 1 (t 71) (t 74)),m 13 75],r [f 76 2 15,l 77 76,
 m 78 10,m 79 16,o 80 (.slc 3 1 (t 78) (some (t 79)) none),C 81 133 [(t 80)],(.chk 77 none (.ld (t 76))),o 82 (.cvt .i64 (t 81)),v 83 .add 77 82,
 m 12 83],r [m 84 10,m 85 16,o 86 (.slc 3 1 (t 84) none (some (t 85))),m 10 86]]),r [m 55 14,u 56 .add 55 1,m 14 56]])=y}).1
def k214:zab:=(⟨_,by first|(simp only[nf];exact rfl)|rfl⟩:{y//(⟨95,(q [r [M 8 Z,M 9 F],r [m 18 2,C 19 243 [(t 18)],m 17 19,x 20 17 0,x 21 17 1,
 m 10 20,m 11 21],q [r [m 22 11,o 23 (.un .not (t 22)),m 24 23,h 25 24 false 3,g 26 24 false (.bin .lss (t 25) (c (n 0))),p 27 24 26,m 28 27,
 h 29 28 false 3,g 30 28 false (.bin .gtr (t 29) (c (n 1048576))),p 31 28 30,m 32 31,h 33 32 false 10,g 34 32 false (.lenL (t 33)),h 35 32 false 1,
 g 36 32 false (.bin .lss (t 34) (t 35)),p 37 32 36],k 37 (q [r [M 8 Z,M 9 F],.ret]) .skip],r [m 38 10,m 39 10,L 40 39,m 41 1,v 42 .sub 40 41,o 43
 (.slc 3 1 (t 38) (some (t 42)) none),C 44 133 [(t 43)],o 45 (.cvt .i64 (t 44)),m 12 45],r [m 46 10,m 47 10,L 48 47,m 49 1,v 50 .sub 48 49,o 51
 (.slc 3 1 (t 46) none (some (t 50))),m 10 51],r [M 13 Z],q [r [M 14 (n 0)],.block 0 (.loop b214_0)],q [r [m 87 12,u 88 .neq 87 0,m 89 88,
 h 90 89 false 10,g 91 89 false (.lenL (t 90)),g 92 89 false (.bin .gtr (t 91) (c (n 0))),p 93 89 92],k 93 (q [r [M 8 Z,M 9 F],.ret]) .skip],
 r [m 94 13,m 8 94,M 9 T],.ret]),[(.t 8),(.t 9)]⟩:zab)=y}).1
def b215_3:zah:=(⟨_,by first|(simp only[nf];exact rfl)|rfl⟩:{y//(q [q [r [m 23 9,m 24 0,m 25 8,e 26 1 24 25,l 27 26,v 28 .lss 23 27],k 28 .skip
 (.exit 2)],.block 3 (q [r [m 31 6,m 32 7,m 33 8,o 34 (.cvt .u8 (t 33)),e 35 3 31 32,f 36 0 35,O (.st (t 36) (t 34))],r [m 37 7,m 38 5,u 39 .quo 38 2,
 v 40 .add 37 39,m 41 5,u 42 .quo 41 8,v 43 .add 40 42,u 44 .add 43 3,m 45 5,v 46 .rem 44 45,m 7 46]]),r [m 29 9,u 30 .add 29 1,m 9 30]])=y}).1
def b215_1:zah:=(⟨_,by first|(simp only[nf];exact rfl)|rfl⟩:{y//(q [q [r [m 17 8,m 18 0,L 19 18,v 20 .lss 17 19],k 20 .skip (.exit 0)],.block 1
 (q [r [M 9 (n 0)],.block 2 (.loop b215_3)]),r [m 21 8,u 22 .add 21 1,m 8 22]])=y}).1
def b215_2:zah:=(⟨_,by first|(simp only[nf];exact rfl)|rfl⟩:{y//(q [q [r [m 57 12,m 58 5,v 59 .lss 57 58,m 60 59,h 61 60 true 0,h 62 60 true 10,
 g 63 60 true (.iad 1 (t 61) (t 62)),g 64 60 true (.ld (t 63)),g 65 60 true (.bin .gtr (t 64) (c (n 0))),a 66 60 65],k 66 .skip (.exit 6)],.block 7
 (q [q [r [m 69 6,m 70 12,e 71 3 69 70,f 72 0 71,l 73 72,o 74 (.cvt .i64 (t 73)),m 75 10,v 76 .neq 74 75],k 76 (.exit 7) .skip],r [m 77 6,m 78 12,
 m 79 1,m 80 11,o 81 (.cvt .u32 (t 80)),C 82 242 [(t 81)],v 83 .sub 79 82,u 84 .add 83 1,e 85 3 77 78,f 86 1 85,O (.st (t 86) (t 84))],r [m 87 6,
 m 88 12,m 89 11,m 90 6,m 91 12,e 92 3 90 91,f 93 1 92,l 94 93,C 95 132 [(t 94)],v 96 .mul 89 95,m 97 5,v 98 .sub 96 97,e 99 3 87 88,f 100 2 99,O
 (.st (t 100) (t 98))],r [m 101 11,u 102 .add 101 1,m 11 102]]),r [m 67 12,u 68 .add 67 1,m 12 68]])=y}).1
def b215_0:zah:=(⟨_,by first|(simp only[nf];exact rfl)|rfl⟩:{y//(q [q [r [m 47 10,m 48 0,L 49 48,v 50 .lss 47 49],k 50 .skip (.exit 4)],.block 5
 (q [r [m 53 0,m 54 10,e 55 1 53 54,l 56 55,m 11 56],r [M 12 (n 0)],.block 6 (.loop b215_2)]),r [m 51 10,u 52 .add 51 1,m 10 52]])=y}).1
def k215:zab:=(⟨_,by first|(simp only[nf];exact rfl)|rfl⟩:{y//(⟨104,(q [r [M 4 Z],r [m 13 1,C 14 132 [(t 13)],m 5 14],r [m 15 5,o 16
 (.mks 282 [(.int .u8 0),(.int .i64 0),(.int .i64 0)] 24 (t 15) (t 15)),m 6 16],r [M 7 (n 0)],q [r [M 8 (n 0)],.block 0 (.loop b215_1)],q [r [M 10
 (n 0)],.block 4 (.loop b215_0)],r [m 103 6,m 4 103],.ret]),[(.t 4)]⟩:zab)=y}).1
def b217_0:zah:=(⟨_,by first|(simp only[nf];exact rfl)|rfl⟩:{y//(q [r [v 9 .lss 8 7],k 9 .skip (.exit 0),.block 1 (q [r [e 10 1 6 8,l 11 10,m 5 11],
 r [m 12 3,m 13 5,v 14 .add 12 13,m 3 14]]),r [u 15 .add 8 1,m 8 15]])=y}).1
def k217:zab:=(⟨_,by first|(simp only[nf];exact rfl)|rfl⟩:{y//(⟨17,(q [r [M 2 (n 0)],r [M 3 (n 0)],q [r [m 6 0,L 7 6,M 8 (n 0)],.block 0
 (.loop b217_0)],r [m 16 3,m 2 16],.ret]),[(.t 2)]⟩:zab)=y}).1
def k218:zab:=(⟨_,by first|(simp only[nf];exact rfl)|rfl⟩:{y//(⟨9,(q [r [M 2 F],r [m 3 0,u 4 .geq 3 5,m 5 4,h 6 5 true 0,g 7 5 true (.bin .leq
 (t 6) (c (n 9))),a 8 5 7,m 2 8],.ret]),[(.t 2)]⟩:zab)=y}).1
def b221_0:zah:=(⟨_,by first|(simp only[nf];exact rfl)|rfl⟩:{y//(q [r [v 21 .lss 20 19],k 21 .skip (.exit 0),.block 1 (q [r [e 22 1 18 20,l 23 22,
 m 7 23],q [r [m 24 7,u 25 .lss 24 0,m 26 25,h 27 26 false 7,h 28 26 false 5,g 29 26 false (.bin .gtr (t 27) (t 28)),p 30 26 29],k 30 (q [r [M 4 F],
 .ret]) .skip],r [m 31 5,m 32 7,v 33 .sub 31 32,m 5 33]]),r [u 34 .add 20 1,m 20 34]])=y}).1
def k221:zab:=(⟨_,by first|(simp only[nf];exact rfl)|rfl⟩:{y//(⟨37,(q [r [M 4 F],q [r [m 8 1,C 9 218 [(t 8)],o 10 (.un .not (t 9)),m 11 10,
 h 12 11 false 0,g 13 11 false (.lenL (t 12)),g 14 11 false (.bin .gtr (t 13) (c (n 256))),p 15 11 14],k 15 (q [r [M 4 F],.ret]) .skip],r [m 16 1,
 o 17 (.bin .shl (c (n 1)) (t 16)),m 5 17],q [r [m 18 0,L 19 18,M 20 (n 0)],.block 0 (.loop b221_0)],r [m 35 5,u 36 .eql 35 0,m 4 36],.ret]),
 [(.t 4)]⟩:zab)=y}).1
def b224_1:zah:=(⟨_,by first|(simp only[nf];exact rfl)|rfl⟩:{y//(q [r [v 27 .lss 26 25],k 27 .skip (.exit 2),.block 3 (q [r [m 28 5,m 29 7,m 30 8,
 o 31 (.cvt .u8 (t 30)),e 32 1 28 29,O (.st (t 32) (t 31))],r [m 33 7,m 34 6,v 35 .add 33 34,m 36 1,u 37 .sub 36 1,v 38 .and 35 37,m 7 38]]),
 r [u 39 .add 26 1,m 26 39]])=y}).1
def b224_0:zah:=(⟨_,by first|(simp only[nf];exact rfl)|rfl⟩:{y//(q [r [v 21 .lss 20 19],k 21 .skip (.exit 0),.block 1 (q [r [m 22 20,e 23 1 18 20,
 l 24 23,m 8 22,m 9 24],r [m 25 9,M 26 (n 0)],.block 2 (.loop b224_1)]),r [u 40 .add 20 1,m 20 40]])=y}).1
def k224:zab:=(⟨_,by first|(simp only[nf];exact rfl)|rfl⟩:{y//(⟨42,(q [r [M 4 Z],r [m 10 1,o 11 (.mks 5 [(.int .u8 0)] 1 (t 10) (t 10)),m 5 11],
 r [m 12 1,o 13 (.bin .shr (t 12) (c (N 1))),m 14 1,o 15 (.bin .shr (t 14) (c (N 3))),v 16 .add 13 15,u 17 .add 16 3,m 6 17],r [M 7 (n 0)],
 q [r [m 18 0,L 19 18,M 20 (n 0)],.block 0 (.loop b224_0)],r [m 41 5,m 4 41],.ret]),[(.t 4)]⟩:zab)=y}).1
def k227:zab:=(⟨_,by first|(simp only[nf];exact rfl)|rfl⟩:{y//(⟨9,(q [r [M 2 (n 0)],q [r [m 3 0,o 4 (.eqv .ptr false (t 3) (c P))],k 4 (q [r [M 2
 (n 0)],.ret]) .skip],r [m 5 0,o 6 (.nck (t 5)),f 7 0 6,l 8 7,m 2 8],.ret]),[(.t 2)]⟩:zab)=y}).1
def k229:zab:=(⟨_,by first|(simp only[nf];exact rfl)|rfl⟩:{y//(⟨5,(q [r [M 2 (n 0)],r [m 3 0,L 4 3,m 2 4],.ret]),[(.t 2)]⟩:zab)=y}).1
def k230:zab:=(⟨_,by first|(simp only[nf];exact rfl)|rfl⟩:{y//(⟨13,(q [r [M 2 P],r [m 6 0,o 7 (.mki 285 (t 6)),C 8 140 [(t 7)],o 9 (.tas 252
 (.pointer none) true (t 8)),m 5 9,x 10 5 0,x 11 5 1,m 3 10,m 4 11],r [m 12 3,m 2 12],.ret]),[(.t 2)]⟩:zab)=y}).1
def k233:zab:=(⟨_,by first|(simp only[nf];exact rfl)|rfl⟩:{y//(⟨20,(q [r [M 4 (n 0)],r [m 7 0,C 8 249 [(t 7)],m 5 8],r [m 9 1,C 10 249 [(t 9)],
 m 6 10],q [r [m 11 5],k 11 (q [q [r [m 12 6],k 12 (q [r [M 4 (n 0)],.ret]) .skip],r [M 4 (n (-1))],.ret]) .skip],q [r [m 13 6],k 13 (q [r [M 4
 (n 1)],.ret]) .skip],q [r [m 14 0,m 15 1,v 16 .lss 14 15],k 16 (q [r [M 4 (n (-1))],.ret]) .skip],q [r [m 17 0,m 18 1,v 19 .gtr 17 18],k 19
 (q [r [M 4 (n 1)],.ret]) .skip],r [M 4 (n 0)],.ret]),[(.t 4)]⟩:zab)=y}).1
def b234_0:zah:=(⟨_,by first|(simp only[nf];exact rfl)|rfl⟩:{y//(q [r [v 8 .lss 7 6],k 8 .skip (.exit 0),.block 1 (q [r [e 9 1 5 7,l 10 9,m 4 10],
 r [m 11 4,u 12 .lss 11 0,m 13 12,h 14 13 false 4,g 15 13 false (.bin .gtr (t 14) (c (n 11))),p 16 13 15],k 16 (q [r [M 2 F],.ret]) .skip]),
 r [u 17 .add 7 1,m 7 17]])=y}).1
def k234:zab:=(⟨_,by first|(simp only[nf];exact rfl)|rfl⟩:{y//(⟨21,(q [r [M 2 F],q [r [m 5 0,L 6 5,M 7 (n 0)],.block 0 (.loop b234_0)],r [m 18 0,
 L 19 18,u 20 .leq 19 256,m 2 20],.ret]),[(.t 2)]⟩:zab)=y}).1
def b235_1:zah:=(⟨_,by first|(simp only[nf];exact rfl)|rfl⟩:{y//(q [r [v 33 .lss 32 31],k 33 .skip (.exit 2),.block 3 (q [r [m 34 32,e 35 1 30 32,
 l 36 35,m 6 34,m 7 36],r [m 37 7,m 38 5,v 39 .eql 37 38],k 39 (q [r [m 40 3,m 41 3,o 42 (.nck (t 41)),f 43 39 42,l 44 43,m 45 6,o 46 (.cvt .u8
 (t 45)),o 47 (.bsl 5 1 [(.int .u8 0)] [(0,(1,(t 46)))]),o 48 (.app 5 1 1 (t 44) (t 47)),o 49 (.nck (t 40)),f 50 39 49,O (.st (t 50) (t 48))],
 r [m 51 3,m 52 5,o 53 (.nck (t 51)),f 54 13 53,o 55 (.iada 13 1 (t 54) (t 52)),l 56 55,u 57 .add 56 1,o 58 (.nck (t 51)),f 59 13 58,o 60 (.iada 13 1
 (t 59) (t 52)),O (.st (t 60) (t 57))]]) .skip]),r [u 61 .add 32 1,m 32 61]])=y}).1
def b235_0:zah:=(⟨_,by first|(simp only[nf];exact rfl)|rfl⟩:{y//(q [q [r [m 10 5,u 11 .leq 10 11],k 11 .skip (.exit 0)],.block 1 (q [r [m 14 3,
 m 15 5,m 16 3,m 17 5,m 18 4,m 19 3,o 20 (.nck (t 19)),f 21 39 20,l 22 21,L 23 22,o 24 (.nck (t 14)),f 25 0 24,o 26 (.iada 13 1 (t 25) (t 15)),o 27
 (.nck (t 16)),f 28 26 27,O (.st (t 26) (t 18)),o 29 (.iada 13 1 (t 28) (t 17)),O (.st (t 29) (t 23))],q [r [m 30 0,L 31 30,M 32 (n 0)],.block 2
 (.loop b235_1)],r [m 62 4,m 63 3,m 64 5,o 65 (.nck (t 63)),f 66 13 65,o 67 (.iada 13 1 (t 66) (t 64)),l 68 67,v 69 .add 62 68,o 70 (.bin .shl (t 69)
 (c (N 1))),m 4 70]]),r [m 12 5,u 13 .add 12 1,m 5 13]])=y}).1
def k235:zab:=(⟨_,by first|(simp only[nf];exact rfl)|rfl⟩:{y//(⟨72,(q [r [M 2 P],r [o 8 (.build [(.int .i64 0),(.int .i64 0),(.int .i64 0),
 (.int .i64 0),(.int .i64 0),(.int .i64 0),(.int .i64 0),(.int .i64 0),(.int .i64 0),(.int .i64 0),(.int .i64 0),(.int .i64 0),(.int .i64 0),
 (.int .i64 0),(.int .i64 0),(.int .i64 0),(.int .i64 0),(.int .i64 0),(.int .i64 0),(.int .i64 0),(.int .i64 0),(.int .i64 0),(.int .i64 0),
 (.int .i64 0),(.int .i64 0),(.int .i64 0),(.int .i64 0),(.int .i64 0),(.int .i64 0),(.int .i64 0),(.int .i64 0),(.int .i64 0),(.int .i64 0),
 (.int .i64 0),(.int .i64 0),(.int .i64 0),(.int .i64 0),(.int .i64 0),(.int .i64 0),(.slice none 0 0)] []),o 9 (.box 311 (t 8)),m 3 9],r [M 4 (n 0)],
 q [r [M 5 (n 1)],.block 0 (.loop b235_0)],r [m 71 3,m 2 71],.ret]),[(.t 2)]⟩:zab)=y}).1
def b236_0:zah:=(⟨_,by first|(simp only[nf];exact rfl)|rfl⟩:{y//(q [q [r [m 11 7,u 12 .leq 11 11],k 12 .skip (.exit 0)],.block 1 (q [r [m 16 1,
 C 17 207 [(t 16),(c (n 1))],m 15 17,x 18 15 0,x 19 15 1,m 8 18,m 9 19],q [r [m 20 9,o 21 (.un .not (t 20))],k 21 (q [r [M 4 (.int .u8 0),M 5 F],
 .ret]) .skip],r [m 22 6,o 23 (.bin .shl (t 22) (c (N 1))),m 24 8,o 25 (.cvt .i64 (t 24)),v 26 .or 23 25,m 6 26],r [m 27 6,m 28 0,m 29 7,o 30 (.nck
 (t 28)),f 31 0 30,o 32 (.iada 13 1 (t 31) (t 29)),l 33 32,v 34 .sub 27 33,m 10 34],r [m 35 10,u 36 .geq 35 0,m 37 36,h 38 37 true 10,h 39 37 true 0,
 h 40 37 true 7,g 41 37 true (.nck (t 39)),g 42 37 true (.fad 13 (t 41)),g 43 37 true (.iada 13 1 (t 42) (t 40)),g 44 37 true (.ld (t 43)),
 g 45 37 true (.bin .lss (t 38) (t 44)),a 46 37 45],k 46 (q [r [m 47 0,o 48 (.nck (t 47)),f 49 39 48,l 50 49,m 51 0,m 52 7,o 53 (.nck (t 51)),
 f 54 26 53,o 55 (.iada 13 1 (t 54) (t 52)),l 56 55,m 57 10,v 58 .add 56 57,e 59 1 50 58,l 60 59,m 4 60,M 5 T],.ret]) .skip]),r [m 13 7,
 u 14 .add 13 1,m 7 14]])=y}).1
def k236:zab:=(⟨_,by first|(simp only[nf];exact rfl)|rfl⟩:{y//(⟨61,(q [r [M 4 (.int .u8 0),M 5 F],r [M 6 (n 0)],q [r [M 7 (n 1)],.block 0
 (.loop b236_0)],r [M 4 (.int .u8 0),M 5 F],.ret]),[(.t 4),(.t 5)]⟩:zab)=y}).1
def b237_0:zah:=(⟨_,by first|(simp only[nf];exact rfl)|rfl⟩:{y//(q [q [r [m 28 9,u 29 .gtr 28 0],k 29 .skip (.exit 0)],.block 1 (q [r [m 31 0,
 m 32 9,o 33 (.cvt .u32 (t 32)),C 34 148 [(t 33)],C 35 207 [(t 31),(t 34)],m 30 35,x 36 30 0,x 37 30 1,m 10 36,m 11 37],q [r [m 38 11,o 39 (.un .not
 (t 38)),m 40 39,h 41 40 false 10,g 42 40 false (.cvt .i64 (t 41)),h 43 40 false 9,g 44 40 false (.bin .gtr (t 42) (t 43)),p 45 40 44,m 46 45,
 h 47 46 false 8,g 48 46 false (.lenL (t 47)),g 49 46 false (.bin .eql (t 48) (c (n 256))),p 50 46 49],k 50 (q [r [M 2 Z,M 3 (n 0),M 4 F],
 .ret]) .skip],r [m 51 8,m 52 10,o 53 (.cvt .i64 (t 52)),o 54 (.bsl 3 1 [(.int .i64 0)] [(0,(1,(t 53)))]),o 55 (.app 3 1 8 (t 51) (t 54)),m 8 55],
 r [m 56 9,m 57 10,o 58 (.cvt .i64 (t 57)),v 59 .sub 56 58,m 9 59]])])=y}).1
def k237:zab:=(⟨_,by first|(simp only[nf];exact rfl)|rfl⟩:{y//(⟨62,(q [r [M 2 Z,M 3 (n 0),M 4 F],r [m 13 0,C 14 207 [(t 13),(c (n 3))],m 12 14,
 x 15 12 0,x 16 12 1,m 5 15,m 6 16],r [m 17 5,o 18 (.cvt .i64 (t 17)),o 19 (.bin .add (c (n 5)) (t 18)),m 7 19],q [r [m 20 6,o 21 (.un .not (t 20)),
 m 22 21,h 23 22 false 7,g 24 22 false (.bin .gtr (t 23) (c (n 9))),p 25 22 24],k 25 (q [r [M 2 Z,M 3 (n 0),M 4 F],.ret]) .skip],r [M 8 Z],
 q [r [m 26 7,o 27 (.bin .shl (c (n 1)) (t 26)),m 9 27],.block 0 (.loop b237_0)],r [m 60 8,m 61 7,m 2 60,m 3 61,M 4 T],.ret]),[(.t 2),(.t 3),
 (.t 4)]⟩:zab)=y}).1
def b238_0:zah:=(⟨_,by first|(simp only[nf];exact rfl)|rfl⟩:{y//(q [r [v 49 .lss 48 47],k 49 .skip (.exit 0),.block 1 (q [r [m 51 0,m 52 11,
 C 53 252 [(t 51),(t 52)],m 50 53,x 54 50 0,x 55 50 1,o 13 (.alloc 282 [(.int .u8 0),(.int .i64 0),(.int .i64 0)]),O (.stn 3 (t 13) (t 54)),m 14 55],
 r [m 57 8,f 58 1 13,l 59 58,C 60 251 [(t 57),(t 59)],m 56 60,x 61 56 0,x 62 56 1,m 15 61,m 16 62],q [r [m 63 16,o 64 (.un .not (t 63))],k 64
 (q [r [M 6 Z,M 7 F],.ret]) .skip],r [m 65 12,f 66 0 13,l 67 66,o 68 (.bsl 5 1 [(.int .u8 0)] [(0,(1,(t 67)))]),o 69 (.app 5 1 1 (t 65) (t 68)),
 m 12 69],r [m 71 0,m 72 11,m 73 15,o 74 (.cvt .i64 (t 73)),C 75 253 [(t 71),(t 72),(t 74)],m 70 75,x 76 70 0,x 77 70 1,m 11 76]]),r [u 78 .add 48 1,
 m 48 78]])=y}).1
def k238:zab:=(⟨_,by first|(simp only[nf];exact rfl)|rfl⟩:{y//(⟨87,(q [r [M 6 Z,M 7 F],r [m 18 1,C 19 250 [(t 18)],m 17 19,x 20 17 0,x 21 17 1,
 m 8 20,m 9 21],q [r [m 22 9,o 23 (.un .not (t 22)),m 24 23,h 25 24 false 0,g 26 24 false (.eqv .ptr false (t 25) (c P)),p 27 24 26,m 28 27,
 h 29 28 false 2,g 30 28 false (.bin .lss (t 29) (c (n 0))),p 31 28 30,m 32 31,h 33 32 false 2,g 34 32 false (.bin .gtr (t 33) (c (n 1048576))),
 p 35 32 34],k 35 (q [r [M 6 Z,M 7 F],.ret]) .skip],r [m 37 8,m 38 0,C 39 227 [(t 38)],C 40 251 [(t 37),(t 39)],m 36 40,x 41 36 0,x 42 36 1,m 10 41,
 m 9 42],q [r [m 43 9,o 44 (.un .not (t 43))],k 44 (q [r [M 6 Z,M 7 F],.ret]) .skip],r [m 45 10,o 46 (.cvt .i64 (t 45)),m 11 46],r [M 12 Z],
 q [r [m 47 2,M 48 (n 0)],.block 0 (.loop b238_0)],q [r [m 79 11,u 80 .neq 79 0,m 81 80,h 82 81 false 8,g 83 81 false (.call 254 [(t 82)]),
 g 84 81 false (.bin .gtr (t 83) (c (n 0))),p 85 81 84],k 85 (q [r [M 6 Z,M 7 F],.ret]) .skip],r [m 86 12,m 6 86,M 7 T],.ret]),[(.t 6),
 (.t 7)]⟩:zab)=y}).1
def b239_0:zah:=(⟨_,by first|(simp only[nf];exact rfl)|rfl⟩:{y//(q [r [v 9 .lss 8 7],k 9 .skip (.exit 0),.block 1 (q [r [m 10 8,m 5 10],r [m 11 1,
 m 12 0,m 13 5,e 14 1 12 13,l 15 14,o 16 (.callv (t 11) [(t 15)])],k 16 (q [r [m 17 5,m 4 17],.ret]) .skip]),r [u 18 .add 8 1,m 8 18]])=y}).1
def k239:zab:=(⟨_,by first|(simp only[nf];exact rfl)|rfl⟩:{y//(⟨19,(q [r [M 4 (n 0)],q [r [m 6 0,L 7 6,M 8 (n 0)],.block 0 (.loop b239_0)],r [M 4
 (n (-1))],.ret]),[(.t 4)]⟩:zab)=y}).1
def k240:zab:=(⟨_,by first|(simp only[nf];exact rfl)|rfl⟩:{y//(⟨14,(q [r [M 2 (n 0),M 3 F],.block 0 (q [r [m 5 0,o 6 (.bin .lss (t 5) (c
 (.int .u8 16))),m 4 6],k 4 (q [r [M 2 (n 0),M 3 T],.ret]) (q [r [m 8 0,o 9 (.bin .leq (t 8) (c (.int .u8 27))),m 7 9],k 7 (q [r [m 10 0,o 11
 (.cvt .i64 (t 10)),u 12 .sub 11 11,u 13 .sub 12 1,m 2 13,M 3 T],.ret]) .skip])]),r [M 2 (n 0),M 3 F],.ret]),[(.t 2),(.t 3)]⟩:zab)=y}).1
def k241:zab:=(⟨_,by first|(simp only[nf];exact rfl)|rfl⟩:{y//(⟨30,(q [r [M 4 (n 0),M 5 F],r [m 9 0,C 10 240 [(t 9)],m 8 10,x 11 8 0,x 12 8 1,
 m 6 11,m 7 12],q [r [m 13 7,o 14 (.un .not (t 13)),m 15 14,h 16 15 false 1,g 17 15 false (.call 148 [(t 16)]),h 18 15 false 6,g 19 15 false
 (.bin .gtr (t 17) (t 18)),p 20 15 19],k 20 (q [r [M 4 (n 0),M 5 F],.ret]) .skip],q [r [m 21 0,o 22 (.bin .lss (t 21) (c (.int .u8 16)))],k 22
 (q [r [m 23 0,o 24 (.cvt .i64 (t 23)),m 4 24,M 5 T],.ret]) .skip],r [m 25 6,o 26 (.bin .shl (c (n 1)) (t 25)),m 27 1,o 28 (.cvt .i64 (t 27)),
 v 29 .add 26 28,m 4 29,M 5 T],.ret]),[(.t 4),(.t 5)]⟩:zab)=y}).1
def b242_0:zah:=(⟨_,by first|(simp only[nf];exact rfl)|rfl⟩:{y//(q [q [r [m 4 0,o 5 (.bin .gtr (t 4) (c (.int .u32 0)))],k 5 .skip (.exit 0)],
 .block 1 (q [r [m 6 0,o 7 (.bin .quo (t 6) (c (.int .u32 2))),m 0 7],r [m 8 3,u 9 .add 8 1,m 3 9]])])=y}).1
def k242:zab:=(⟨_,by first|(simp only[nf];exact rfl)|rfl⟩:{y//(⟨11,(q [r [M 2 (n 0)],r [M 3 (n 0)],.block 0 (.loop b242_0),r [m 10 3,m 2 10],.ret]),
 [(.t 2)]⟩:zab)=y}).1
def b243_0:zah:=(⟨_,by first|(simp only[nf];exact rfl)|rfl⟩:{y//(q [q [r [m 23 4,m 24 5,e 25 1 23 24,l 26 25,u 27 .eql 26 0],k 27 .skip (.exit 0)],
 .block 1 (r [m 28 5,u 29 .sub 28 1,m 5 29])])=y}).1
def k243:zab:=(⟨_,by first|(simp only[nf];exact rfl)|rfl⟩:{y//(⟨33,(q [r [M 2 Z,M 3 F],q [r [m 6 0,L 7 6,u 8 .eql 7 0,m 9 8,h 10 9 false 0,
 h 11 9 false 0,g 12 9 false (.lenL (t 11)),g 13 9 false (.bin .sub (t 12) (c (n 1))),g 14 9 false (.iad 1 (t 10) (t 13)),g 15 9 false (.ld (t 14)),
 g 16 9 false (.bin .eql (t 15) (c (.int .u8 0))),p 17 9 16],k 17 (q [r [M 2 Z,M 3 F],.ret]) .skip],r [m 18 0,C 19 130 [(t 18)],m 4 19],r [m 20 4,
 L 21 20,u 22 .sub 21 1,m 5 22],.block 0 (.loop b243_0),r [m 30 4,m 31 5,o 32 (.slc 3 1 (t 30) none (some (t 31))),m 2 32,M 3 T],.ret]),[(.t 2),
 (.t 3)]⟩:zab)=y}).1
def k249:zab:=(⟨_,by first|(simp only[nf];exact rfl)|rfl⟩:{y//(⟨6,(q [r [M 2 F],r [m 3 0,m 4 0,v 5 .neq 3 4,m 2 5],.ret]),[(.t 2)]⟩:zab)=y}).1
def k250:zab:=(⟨_,by first|(simp only[nf];exact rfl)|rfl⟩:{y//(⟨36,(q [r [M 2 P,M 3 F],q [r [m 5 0,L 6 5,u 7 .eql 6 0,m 8 7,h 9 8 false 0,
 h 10 8 false 0,g 11 8 false (.lenL (t 10)),g 12 8 false (.bin .sub (t 11) (c (n 1))),g 13 8 false (.iad 1 (t 9) (t 12)),g 14 8 false (.ld (t 13)),
 g 15 8 false (.bin .eql (t 14) (c (.int .u8 0))),p 16 8 15],k 16 (q [r [M 2 P,M 3 F],.ret]) .skip],r [m 17 0,m 18 0,L 19 18,u 20 .sub 19 1,
 e 21 1 17 20,l 22 21,o 23 (.cvt .u32 (t 22)),C 24 148 [(t 23)],u 25 .sub 24 1,m 4 25],r [m 26 0,o 27 (.app 5 1 1 (c Z) (t 26)),m 28 0,L 29 28,
 u 30 .sub 29 1,o 31 (.bin .mul (c (n 8)) (t 30)),m 32 4,v 33 .add 31 32,o 34 (.build [(.slice none 0 0),(.int .i64 0)] [(0,(1,(t 27))),(1,(1,
 (t 33)))]),o 35 (.box 322 (t 34)),m 2 35,M 3 T],.ret]),[(.t 2),(.t 3)]⟩:zab)=y}).1
def b251_0:zah:=(⟨_,by first|(simp only[nf];exact rfl)|rfl⟩:{y//(q [r [v 27 .lss 26 25],k 27 .skip (.exit 0),.block 1 (q [r [m 28 0,o 29 (.nck
 (t 28)),f 30 1 29,l 31 30,u 32 .sub 31 1,o 33 (.nck (t 28)),f 34 1 33,O (.st (t 34) (t 32))],r [m 35 6,o 36 (.bin .shl (t 35) (c (N 1))),m 37 0,
 m 38 0,o 39 (.nck (t 38)),f 40 1 39,l 41 40,C 42 259 [(t 37),(t 41)],v 43 .or 36 42,m 6 43]]),r [u 44 .add 26 1,m 26 44]])=y}).1
def k251:zab:=(⟨_,by first|(simp only[nf];exact rfl)|rfl⟩:{y//(⟨46,(q [r [M 4 (.int .u32 0),M 5 F],q [r [m 7 0,o 8 (.eqv .ptr false (t 7) (c P)),
 m 9 8,h 10 9 false 1,g 11 9 false (.bin .lss (t 10) (c (n 0))),p 12 9 11,m 13 12,h 14 13 false 1,g 15 13 false (.bin .gtr (t 14) (c (n 32))),
 p 16 13 15,m 17 16,h 18 17 false 1,h 19 17 false 0,g 20 17 false (.nck (t 19)),g 21 17 false (.fad 1 (t 20)),g 22 17 false (.ld (t 21)),
 g 23 17 false (.bin .gtr (t 18) (t 22)),p 24 17 23],k 24 (q [r [M 4 (.int .u32 0),M 5 F],.ret]) .skip],r [M 6 (.int .u32 0)],q [r [m 25 1,M 26
 (n 0)],.block 0 (.loop b251_0)],r [m 45 6,m 4 45,M 5 T],.ret]),[(.t 4),(.t 5)]⟩:zab)=y}).1
def k252:zab:=(⟨_,by first|(simp only[nf];exact rfl)|rfl⟩:{y//(⟨18,(q [r [o 4 (.alloc 282 [(.int .u8 0),(.int .i64 0),(.int .i64 0)]),M 5 F],
 q [r [m 6 0,m 7 1,C 8 256 [(t 6),(t 7)],o 9 (.un .not (t 8))],k 9 (q [r [o 10 (.build [(.int .u8 0),(.int .i64 0),(.int .i64 0)] []),O (.stn 3 (t 4)
 (t 10)),M 5 F],.ret]) .skip],r [m 11 0,o 12 (.nck (t 11)),f 13 1 12,l 14 13,m 15 1,e 16 3 14 15,o 17 (.ldn 3 (t 16)),O (.stn 3 (t 4) (t 17)),M 5 T],
 .ret]),[(.cn 4 3),(.t 5)]⟩:zab)=y}).1
def k253:zab:=(⟨_,by first|(simp only[nf];exact rfl)|rfl⟩:{y//(⟨33,(q [r [M 6 (n 0),M 7 F],r [m 11 0,m 12 1,C 13 252 [(t 11),(t 12)],m 10 13,
 x 14 10 0,x 15 10 1,o 8 (.alloc 282 [(.int .u8 0),(.int .i64 0),(.int .i64 0)]),O (.stn 3 (t 8) (t 14)),m 9 15],q [r [m 16 9,o 17 (.un .not (t 16)),
 m 18 17,h 19 18 false 2,g 20 18 false (.bin .lss (t 19) (c (n 0))),p 21 18 20,m 22 21,h 23 22 false 2,g 24 22 false (.fad 1 (t 8)),g 25 22 false
 (.ld (t 24)),g 26 22 false (.bin .shl (c (n 1)) (t 25)),g 27 22 false (.bin .geq (t 23) (t 26)),p 28 22 27],k 28 (q [r [M 6 (n 0),M 7 F],
 .ret]) .skip],r [f 29 2 8,l 30 29,m 31 2,v 32 .add 30 31,m 6 32,M 7 T],.ret]),[(.t 6),(.t 7)]⟩:zab)=y}).1
def k254:zab:=(⟨_,by first|(simp only[nf];exact rfl)|rfl⟩:{y//(⟨9,(q [r [M 2 (n 0)],q [r [m 3 0,o 4 (.eqv .ptr false (t 3) (c P))],k 4 (q [r [M 2
 (n 0)],.ret]) .skip],r [m 5 0,o 6 (.nck (t 5)),f 7 1 6,l 8 7,m 2 8],.ret]),[(.t 2)]⟩:zab)=y}).1
def k256:zab:=(⟨_,by first|(simp only[nf];exact rfl)|rfl⟩:{y//(⟨13,(q [r [M 4 F],r [m 5 1,u 6 .geq 5 0,m 7 6,h 8 7 true 1,h 9 7 true 0,g 10 7 true
 (.call 260 [(t 9)]),g 11 7 true (.bin .lss (t 8) (t 10)),a 12 7 11,m 4 12],.ret]),[(.t 4)]⟩:zab)=y}).1
def k259:zab:=(⟨_,by first|(simp only[nf];exact rfl)|rfl⟩:{y//(⟨18,(q [r [M 4 (.int .u32 0)],r [m 5 0,o 6 (.nck (t 5)),f 7 0 6,l 8 7,m 9 1,o 10
 (.bin .shr (t 9) (c (N 3))),e 11 1 8 10,l 12 11,m 13 1,u 14 .and 13 7,v 15 .shr 12 14,o 16 (.cvt .u32 (t 15)),o 17 (.bin .and (t 16) (c
 (.int .u32 1))),m 4 17],.ret]),[(.t 4)]⟩:zab)=y}).1
def k260:zab:=(⟨_,by first|(simp only[nf];exact rfl)|rfl⟩:{y//(⟨10,(q [r [M 2 (n 0)],q [r [m 3 0,o 4 (.eqv .ptr false (t 3) (c P))],k 4 (q [r [M 2
 (n 0)],.ret]) .skip],r [m 5 0,o 6 (.nck (t 5)),f 7 1 6,l 8 7,L 9 8,m 2 9],.ret]),[(.t 2)]⟩:zab)=y}).1
def b283_0:zah:=(⟨_,by first|(simp only[nf];exact rfl)|rfl⟩:{y//(q [r [v 9 .lss 8 7],k 9 .skip (.exit 0),.block 1 (q [r [e 10 1 6 8,l 11 10,m 5 11],
 r [m 12 5,m 13 3,v 14 .neq 12 13],k 14 (q [r [m 15 5,m 2 15],.ret]) .skip]),r [u 16 .add 8 1,m 8 16]])=y}).1
def k283:zab:=(⟨_,by first|(simp only[nf];exact rfl)|rfl⟩:{y//(⟨18,(q [r [M 2 (n 0)],r [M 3 (n 0)],q [r [m 6 0,L 7 6,M 8 (n 0)],.block 0
 (.loop b283_0)],r [m 17 3,m 2 17],.ret]),[(.t 2)]⟩:zab)=y}).1
def k285:zab:=(⟨_,by first|(simp only[nf];exact rfl)|rfl⟩:{y//(⟨40,(q [r [M 6 F],r [m 7 0,m 8 1,e 9 1 7 8,l 10 9,o 11 (.nck (t 10)),f 12 0 11,
 l 13 12,m 14 0,m 15 2,e 16 1 14 15,l 17 16,o 18 (.nck (t 17)),f 19 0 18,l 20 19,m 22 0,m 23 1,e 24 1 22 23,l 25 24,o 26 (.nck (t 25)),f 27 1 26,
 l 28 27,m 29 0,m 30 2,e 31 1 29 30,l 32 31,o 33 (.nck (t 32)),f 34 1 33,l 35 34,C 21 233 [(t 13),(t 20)],(.chk 25 none (.ld (t 24))),(.chk 28 none
 (.ld (t 27))),(.chk 32 none (.ld (t 31))),(.chk 35 none (.ld (t 34))),C 36 233 [(t 28),(t 35)],o 37 (.bsl 3 2 [(.int .i64 0),(.int .i64 0)] [(0,(1,
 (t 21))),(1,(1,(t 36)))]),C 38 283 [(t 37)],u 39 .lss 38 0,m 6 39],.ret]),[(.t 6)]⟩:zab)=y}).1
def k286:zab:=(⟨_,by first|(simp only[nf];exact rfl)|rfl⟩:{y//(⟨25,(q [r [M 2 .nilIface],r [m 5 0,o 6 (.nck (t 5)),l 7 6,L 8 7,u 9 .sub 8 1,m 3 9],
 r [m 10 0,o 11 (.nck (t 10)),l 12 11,m 13 3,e 14 1 12 13,l 15 14,m 4 15],r [m 16 0,m 17 0,o 18 (.nck (t 17)),l 19 18,m 20 3,o 21 (.slc 252 1
 (t 19) none (some (t 20))),o 22 (.nck (t 16)),O (.st (t 22) (t 21))],r [m 23 4,o 24 (.mki 252 (t 23)),m 2 24],.ret]),[(.t 2)]⟩:zab)=y}).1
def k287:zab:=(⟨_,by first|(simp only[nf];exact rfl)|rfl⟩:{y//(⟨20,(q [r [m 7 1,o 8 (.tas 252 (.pointer none) true (t 7)),m 6 8,x 9 6 0,x 10 6 1,
 m 4 9,m 5 10],r [m 11 5],k 11 (r [m 12 0,m 13 0,o 14 (.nck (t 13)),l 15 14,m 16 4,o 17 (.bsl 252 1 [(.pointer none)] [(0,(1,(t 16)))]),o 18
 (.app 252 1 8 (t 15) (t 17)),o 19 (.nck (t 12)),O (.st (t 19) (t 18))]) .skip]),[]⟩:zab)=y}).1
def k288:zab:=(⟨_,by first|(simp only[nf];exact rfl)|rfl⟩:{y//(⟨20,(r [m 6 0,m 7 1,m 8 0,m 9 2,m 10 0,m 11 2,e 12 1 10 11,l 13 12,m 14 0,m 15 1,
 e 16 1 14 15,l 17 16,e 18 1 6 7,O (.st (t 18) (t 13)),e 19 1 8 9,O (.st (t 19) (t 17))]),[]⟩:zab)=y}).1
end
def OK (i:FuncId) (k:zab):Prop:=zce Go.Proofs.Tryz.prog i=true∧∃fn,Go.Proofs.Tryz.prog.funcs[i]?=some fn∧zj4 Go.Proofs.Tryz.prog fn=some k
theorem c12:OK 12 k12:=⟨by kernel_rfl,Tryz.f12,Tryz.func12,by kernel_rfl⟩
theorem c15:OK 15 k15:=⟨by kernel_rfl,Tryz.f15,Tryz.func15,by kernel_rfl⟩
theorem c16:OK 16 k16:=⟨by kernel_rfl,Tryz.f16,Tryz.func16,by kernel_rfl⟩
theorem c17:OK 17 k17:=⟨by kernel_rfl,Tryz.f17,Tryz.func17,by kernel_rfl⟩
theorem c18:OK 18 k18:=⟨by kernel_rfl,Tryz.f18,Tryz.func18,by kernel_rfl⟩
theorem c20:OK 20 k20:=⟨by kernel_rfl,Tryz.f20,Tryz.func20,by kernel_rfl⟩
theorem c21:OK 21 k21:=⟨by kernel_rfl,Tryz.f21,Tryz.func21,by kernel_rfl⟩
theorem c30:OK 30 k30:=⟨by kernel_rfl,Tryz.f30,Tryz.func30,by kernel_rfl⟩
theorem c37:OK 37 k37:=⟨by kernel_rfl,Tryz.f37,Tryz.func37,by kernel_rfl⟩
theorem c38:OK 38 k38:=⟨by kernel_rfl,Tryz.f38,Tryz.func38,by kernel_rfl⟩
theorem c40:OK 40 k40:=⟨by kernel_rfl,Tryz.f40,Tryz.func40,by kernel_rfl⟩
theorem c41:OK 41 k41:=⟨by kernel_rfl,Tryz.f41,Tryz.func41,by kernel_rfl⟩
theorem c43:OK 43 k43:=⟨by kernel_rfl,Tryz.f43,Tryz.func43,by kernel_rfl⟩
theorem c44:OK 44 k44:=⟨by kernel_rfl,Tryz.f44,Tryz.func44,by kernel_rfl⟩
theorem c45:OK 45 k45:=⟨by kernel_rfl,Tryz.f45,Tryz.func45,by kernel_rfl⟩
theorem c47:OK 47 k47:=⟨by kernel_rfl,Tryz.f47,Tryz.func47,by kernel_rfl⟩
theorem c48:OK 48 k48:=⟨by kernel_rfl,Tryz.f48,Tryz.func48,by kernel_rfl⟩
theorem c49:OK 49 k49:=⟨by kernel_rfl,Tryz.f49,Tryz.func49,by kernel_rfl⟩
theorem c50:OK 50 k50:=⟨by kernel_rfl,Tryz.f50,Tryz.func50,by kernel_rfl⟩
theorem c51:OK 51 k51:=⟨by kernel_rfl,Tryz.f51,Tryz.func51,by kernel_rfl⟩
theorem c52:OK 52 k52:=⟨by kernel_rfl,Tryz.f52,Tryz.func52,by kernel_rfl⟩
theorem c53:OK 53 k53:=⟨by kernel_rfl,Tryz.f53,Tryz.func53,by kernel_rfl⟩
theorem c54:OK 54 k54:=⟨by kernel_rfl,Tryz.f54,Tryz.func54,by kernel_rfl⟩
theorem c55:OK 55 k55:=⟨by kernel_rfl,Tryz.f55,Tryz.func55,by kernel_rfl⟩
theorem c56:OK 56 k56:=⟨by kernel_rfl,Tryz.f56,Tryz.func56,by kernel_rfl⟩
theorem c57:OK 57 k57:=⟨by kernel_rfl,Tryz.f57,Tryz.func57,by kernel_rfl⟩
theorem c58:OK 58 k58:=⟨by kernel_rfl,Tryz.f58,Tryz.func58,by kernel_rfl⟩
theorem c60:OK 60 k60:=⟨by kernel_rfl,Tryz.f60,Tryz.func60,by kernel_rfl⟩
theorem c61:OK 61 k61:=⟨by kernel_rfl,Tryz.f61,Tryz.func61,by kernel_rfl⟩
theorem c63:OK 63 k63:=⟨by kernel_rfl,Tryz.f63,Tryz.func63,by kernel_rfl⟩
theorem c64:OK 64 k64:=⟨by kernel_rfl,Tryz.f64,Tryz.func64,by kernel_rfl⟩
theorem c65:OK 65 k65:=⟨by kernel_rfl,Tryz.f65,Tryz.func65,by kernel_rfl⟩
theorem c70:OK 70 k70:=⟨by kernel_rfl,Tryz.f70,Tryz.func70,by kernel_rfl⟩
theorem c71:OK 71 k71:=⟨by kernel_rfl,Tryz.f71,Tryz.func71,by kernel_rfl⟩
theorem c72:OK 72 k72:=⟨by kernel_rfl,Tryz.f72,Tryz.func72,by kernel_rfl⟩
theorem c73:OK 73 k73:=⟨by kernel_rfl,Tryz.f73,Tryz.func73,by kernel_rfl⟩
theorem c74:OK 74 k74:=⟨by kernel_rfl,Tryz.f74,Tryz.func74,by kernel_rfl⟩
theorem c75:OK 75 k75:=⟨by kernel_rfl,Tryz.f75,Tryz.func75,by kernel_rfl⟩
theorem c76:OK 76 k76:=⟨by kernel_rfl,Tryz.f76,Tryz.func76,by kernel_rfl⟩
theorem c78:OK 78 k78:=⟨by kernel_rfl,Tryz.f78,Tryz.func78,by kernel_rfl⟩
theorem c79:OK 79 k79:=⟨by kernel_rfl,Tryz.f79,Tryz.func79,by kernel_rfl⟩
theorem c80:OK 80 k80:=⟨by kernel_rfl,Tryz.f80,Tryz.func80,by kernel_rfl⟩
theorem c81:OK 81 k81:=⟨by kernel_rfl,Tryz.f81,Tryz.func81,by kernel_rfl⟩
theorem c82:OK 82 k82:=⟨by kernel_rfl,Tryz.f82,Tryz.func82,by kernel_rfl⟩
theorem c83:OK 83 k83:=⟨by kernel_rfl,Tryz.f83,Tryz.func83,by kernel_rfl⟩
theorem c85:OK 85 k85:=⟨by kernel_rfl,Tryz.f85,Tryz.func85,by kernel_rfl⟩
theorem c86:OK 86 k86:=⟨by kernel_rfl,Tryz.f86,Tryz.func86,by kernel_rfl⟩
theorem c87:OK 87 k87:=⟨by kernel_rfl,Tryz.f87,Tryz.func87,by kernel_rfl⟩
theorem c88:OK 88 k88:=⟨by kernel_rfl,Tryz.f88,Tryz.func88,by kernel_rfl⟩
theorem c89:OK 89 k89:=⟨by kernel_rfl,Tryz.f89,Tryz.func89,by kernel_rfl⟩
theorem c90:OK 90 k90:=⟨by kernel_rfl,Tryz.f90,Tryz.func90,by kernel_rfl⟩
theorem c91:OK 91 k91:=⟨by kernel_rfl,Tryz.f91,Tryz.func91,by kernel_rfl⟩
theorem c101:OK 101 k101:=⟨by kernel_rfl,Tryz.f101,Tryz.func101,by kernel_rfl⟩
theorem c102:OK 102 k102:=⟨by kernel_rfl,Tryz.f102,Tryz.func102,by kernel_rfl⟩
theorem c103:OK 103 k103:=⟨by kernel_rfl,Tryz.f103,Tryz.func103,by kernel_rfl⟩
theorem c104:OK 104 k104:=⟨by kernel_rfl,Tryz.f104,Tryz.func104,by kernel_rfl⟩
theorem c105:OK 105 k105:=⟨by kernel_rfl,Tryz.f105,Tryz.func105,by kernel_rfl⟩
theorem c106:OK 106 k106:=⟨by kernel_rfl,Tryz.f106,Tryz.func106,by kernel_rfl⟩
theorem c108:OK 108 k108:=⟨by kernel_rfl,Tryz.f108,Tryz.func108,by kernel_rfl⟩
theorem c111:OK 111 k111:=⟨by kernel_rfl,Tryz.f111,Tryz.func111,by kernel_rfl⟩
theorem c113:OK 113 k113:=⟨by kernel_rfl,Tryz.f113,Tryz.func113,by kernel_rfl⟩
theorem c114:OK 114 k114:=⟨by kernel_rfl,Tryz.f114,Tryz.func114,by kernel_rfl⟩
theorem c115:OK 115 k115:=⟨by kernel_rfl,Tryz.f115,Tryz.func115,by kernel_rfl⟩
theorem c116:OK 116 k116:=⟨by kernel_rfl,Tryz.f116,Tryz.func116,by kernel_rfl⟩
theorem c117:OK 117 k117:=⟨by kernel_rfl,Tryz.f117,Tryz.func117,by kernel_rfl⟩
theorem c118:OK 118 k118:=⟨by kernel_rfl,Tryz.f118,Tryz.func118,by kernel_rfl⟩
theorem c119:OK 119 k119:=⟨by kernel_rfl,Tryz.f119,Tryz.func119,by kernel_rfl⟩
theorem c120:OK 120 k120:=⟨by kernel_rfl,Tryz.f120,Tryz.func120,by kernel_rfl⟩
theorem c123:OK 123 k123:=⟨by kernel_rfl,Tryz.f123,Tryz.func123,by kernel_rfl⟩
theorem c124:OK 124 k124:=⟨by kernel_rfl,Tryz.f124,Tryz.func124,by kernel_rfl⟩
theorem c125:OK 125 k125:=⟨by kernel_rfl,Tryz.f125,Tryz.func125,by kernel_rfl⟩
theorem c126:OK 126 k126:=⟨by kernel_rfl,Tryz.f126,Tryz.func126,by kernel_rfl⟩
theorem c127:OK 127 k127:=⟨by kernel_rfl,Tryz.f127,Tryz.func127,by kernel_rfl⟩
theorem c128:OK 128 k128:=⟨by kernel_rfl,Tryz.f128,Tryz.func128,by kernel_rfl⟩
theorem c129:OK 129 k129:=⟨by kernel_rfl,Tryz.f129,Tryz.func129,by kernel_rfl⟩
theorem c130:OK 130 k130:=⟨by kernel_rfl,Tryz.f130,Tryz.func130,by kernel_rfl⟩
theorem c131:OK 131 k131:=⟨by kernel_rfl,Tryz.f131,Tryz.func131,by kernel_rfl⟩
theorem c132:OK 132 k132:=⟨by kernel_rfl,Tryz.f132,Tryz.func132,by kernel_rfl⟩
theorem c133:OK 133 k133:=⟨by kernel_rfl,Tryz.f133,Tryz.func133,by kernel_rfl⟩
theorem c134:OK 134 k134:=⟨by kernel_rfl,Tryz.f134,Tryz.func134,by kernel_rfl⟩
theorem c135:OK 135 k135:=⟨by kernel_rfl,Tryz.f135,Tryz.func135,by kernel_rfl⟩
theorem c136:OK 136 k136:=⟨by kernel_rfl,Tryz.f136,Tryz.func136,by kernel_rfl⟩
theorem c138:OK 138 k138:=⟨by kernel_rfl,Tryz.f138,Tryz.func138,by kernel_rfl⟩
theorem c140:OK 140 k140:=⟨by kernel_rfl,Tryz.f140,Tryz.func140,by kernel_rfl⟩
theorem c141:OK 141 k141:=⟨by kernel_rfl,Tryz.f141,Tryz.func141,by kernel_rfl⟩
theorem c144:OK 144 k144:=⟨by kernel_rfl,Tryz.f144,Tryz.func144,by kernel_rfl⟩
theorem c145:OK 145 k145:=⟨by kernel_rfl,Tryz.f145,Tryz.func145,by kernel_rfl⟩
theorem c147:OK 147 k147:=⟨by kernel_rfl,Tryz.f147,Tryz.func147,by kernel_rfl⟩
theorem c148:OK 148 k148:=⟨by kernel_rfl,Tryz.f148,Tryz.func148,by kernel_rfl⟩
theorem c149:OK 149 k149:=⟨by kernel_rfl,Tryz.f149,Tryz.func149,by kernel_rfl⟩
theorem c154:OK 154 k154:=⟨by kernel_rfl,Tryz.f154,Tryz.func154,by kernel_rfl⟩
theorem c155:OK 155 k155:=⟨by kernel_rfl,Tryz.f155,Tryz.func155,by kernel_rfl⟩
theorem c156:OK 156 k156:=⟨by kernel_rfl,Tryz.f156,Tryz.func156,by kernel_rfl⟩
theorem c157:OK 157 k157:=⟨by kernel_rfl,Tryz.f157,Tryz.func157,by kernel_rfl⟩
theorem c159:OK 159 k159:=⟨by kernel_rfl,Tryz.f159,Tryz.func159,by kernel_rfl⟩
theorem c161:OK 161 k161:=⟨by kernel_rfl,Tryz.f161,Tryz.func161,by kernel_rfl⟩
theorem c162:OK 162 k162:=⟨by kernel_rfl,Tryz.f162,Tryz.func162,by kernel_rfl⟩
theorem c163:OK 163 k163:=⟨by kernel_rfl,Tryz.f163,Tryz.func163,by kernel_rfl⟩
theorem c164:OK 164 k164:=⟨by kernel_rfl,Tryz.f164,Tryz.func164,by kernel_rfl⟩
theorem c165:OK 165 k165:=⟨by kernel_rfl,Tryz.f165,Tryz.func165,by kernel_rfl⟩
theorem c166:OK 166 k166:=⟨by kernel_rfl,Tryz.f166,Tryz.func166,by kernel_rfl⟩
theorem c167:OK 167 k167:=⟨by kernel_rfl,Tryz.f167,Tryz.func167,by kernel_rfl⟩
theorem c168:OK 168 k168:=⟨by kernel_rfl,Tryz.f168,Tryz.func168,by kernel_rfl⟩
theorem c169:OK 169 k169:=⟨by kernel_rfl,Tryz.f169,Tryz.func169,by kernel_rfl⟩
theorem c170:OK 170 k170:=⟨by kernel_rfl,Tryz.f170,Tryz.func170,by kernel_rfl⟩
theorem c171:OK 171 k171:=⟨by kernel_rfl,Tryz.f171,Tryz.func171,by kernel_rfl⟩
theorem c172:OK 172 k172:=⟨by kernel_rfl,Tryz.f172,Tryz.func172,by kernel_rfl⟩
theorem c173:OK 173 k173:=⟨by kernel_rfl,Tryz.f173,Tryz.func173,by kernel_rfl⟩
theorem c174:OK 174 k174:=⟨by kernel_rfl,Tryz.f174,Tryz.func174,by kernel_rfl⟩
theorem c175:OK 175 k175:=⟨by kernel_rfl,Tryz.f175,Tryz.func175,by kernel_rfl⟩
theorem c176:OK 176 k176:=⟨by kernel_rfl,Tryz.f176,Tryz.func176,by kernel_rfl⟩
theorem c179:OK 179 k179:=⟨by kernel_rfl,Tryz.f179,Tryz.func179,by kernel_rfl⟩
theorem c180:OK 180 k180:=⟨by kernel_rfl,Tryz.f180,Tryz.func180,by kernel_rfl⟩
theorem c181:OK 181 k181:=⟨by kernel_rfl,Tryz.f181,Tryz.func181,by kernel_rfl⟩
theorem c182:OK 182 k182:=⟨by kernel_rfl,Tryz.f182,Tryz.func182,by kernel_rfl⟩
theorem c183:OK 183 k183:=⟨by kernel_rfl,Tryz.f183,Tryz.func183,by kernel_rfl⟩
theorem c187:OK 187 k187:=⟨by kernel_rfl,Tryz.f187,Tryz.func187,by kernel_rfl⟩
theorem c189:OK 189 k189:=⟨by kernel_rfl,Tryz.f189,Tryz.func189,by kernel_rfl⟩
theorem c190:OK 190 k190:=⟨by kernel_rfl,Tryz.f190,Tryz.func190,by kernel_rfl⟩
theorem c191:OK 191 k191:=⟨by kernel_rfl,Tryz.f191,Tryz.func191,by kernel_rfl⟩
theorem c192:OK 192 k192:=⟨by kernel_rfl,Tryz.f192,Tryz.func192,by kernel_rfl⟩
theorem c194:OK 194 k194:=⟨by kernel_rfl,Tryz.f194,Tryz.func194,by kernel_rfl⟩
theorem c195:OK 195 k195:=⟨by kernel_rfl,Tryz.f195,Tryz.func195,by kernel_rfl⟩
theorem c196:OK 196 k196:=⟨by kernel_rfl,Tryz.f196,Tryz.func196,by kernel_rfl⟩
theorem c197:OK 197 k197:=⟨by kernel_rfl,Tryz.f197,Tryz.func197,by kernel_rfl⟩
theorem c198:OK 198 k198:=⟨by kernel_rfl,Tryz.f198,Tryz.func198,by kernel_rfl⟩
theorem c199:OK 199 k199:=⟨by kernel_rfl,Tryz.f199,Tryz.func199,by kernel_rfl⟩
theorem c200:OK 200 k200:=⟨by kernel_rfl,Tryz.f200,Tryz.func200,by kernel_rfl⟩
theorem c201:OK 201 k201:=⟨by kernel_rfl,Tryz.f201,Tryz.func201,by kernel_rfl⟩
theorem c202:OK 202 k202:=⟨by kernel_rfl,Tryz.f202,Tryz.func202,by kernel_rfl⟩
theorem c203:OK 203 k203:=⟨by kernel_rfl,Tryz.f203,Tryz.func203,by kernel_rfl⟩
theorem c204:OK 204 k204:=⟨by kernel_rfl,Tryz.f204,Tryz.func204,by kernel_rfl⟩
theorem c205:OK 205 k205:=⟨by kernel_rfl,Tryz.f205,Tryz.func205,by kernel_rfl⟩
theorem c206:OK 206 k206:=⟨by kernel_rfl,Tryz.f206,Tryz.func206,by kernel_rfl⟩
theorem c207:OK 207 k207:=⟨by kernel_rfl,Tryz.f207,Tryz.func207,by kernel_rfl⟩
theorem c208:OK 208 k208:=⟨by kernel_rfl,Tryz.f208,Tryz.func208,by kernel_rfl⟩
theorem c209:OK 209 k209:=⟨by kernel_rfl,Tryz.f209,Tryz.func209,by kernel_rfl⟩
theorem c210:OK 210 k210:=⟨by kernel_rfl,Tryz.f210,Tryz.func210,by kernel_rfl⟩
theorem c211:OK 211 k211:=⟨by kernel_rfl,Tryz.f211,Tryz.func211,by kernel_rfl⟩
theorem c212:OK 212 k212:=⟨by kernel_rfl,Tryz.f212,Tryz.func212,by kernel_rfl⟩
theorem c213:OK 213 k213:=⟨by kernel_rfl,Tryz.f213,Tryz.func213,by kernel_rfl⟩
theorem c214:OK 214 k214:=⟨by kernel_rfl,Tryz.f214,Tryz.func214,by kernel_rfl⟩
theorem c215:OK 215 k215:=⟨by kernel_rfl,Tryz.f215,Tryz.func215,by kernel_rfl⟩
theorem c217:OK 217 k217:=⟨by kernel_rfl,Tryz.f217,Tryz.func217,by kernel_rfl⟩
theorem c218:OK 218 k218:=⟨by kernel_rfl,Tryz.f218,Tryz.func218,by kernel_rfl⟩
theorem c221:OK 221 k221:=⟨by kernel_rfl,Tryz.f221,Tryz.func221,by kernel_rfl⟩
theorem c224:OK 224 k224:=⟨by kernel_rfl,Tryz.f224,Tryz.func224,by kernel_rfl⟩
theorem c227:OK 227 k227:=⟨by kernel_rfl,Tryz.f227,Tryz.func227,by kernel_rfl⟩
theorem c229:OK 229 k229:=⟨by kernel_rfl,Tryz.f229,Tryz.func229,by kernel_rfl⟩
theorem c230:OK 230 k230:=⟨by kernel_rfl,Tryz.f230,Tryz.func230,by kernel_rfl⟩
theorem c233:OK 233 k233:=⟨by kernel_rfl,Tryz.f233,Tryz.func233,by kernel_rfl⟩
theorem c234:OK 234 k234:=⟨by kernel_rfl,Tryz.f234,Tryz.func234,by kernel_rfl⟩
theorem c235:OK 235 k235:=⟨by kernel_rfl,Tryz.f235,Tryz.func235,by kernel_rfl⟩
theorem c236:OK 236 k236:=⟨by kernel_rfl,Tryz.f236,Tryz.func236,by kernel_rfl⟩
theorem c237:OK 237 k237:=⟨by kernel_rfl,Tryz.f237,Tryz.func237,by kernel_rfl⟩
theorem c238:OK 238 k238:=⟨by kernel_rfl,Tryz.f238,Tryz.func238,by kernel_rfl⟩
theorem c239:OK 239 k239:=⟨by kernel_rfl,Tryz.f239,Tryz.func239,by kernel_rfl⟩
theorem c240:OK 240 k240:=⟨by kernel_rfl,Tryz.f240,Tryz.func240,by kernel_rfl⟩
theorem c241:OK 241 k241:=⟨by kernel_rfl,Tryz.f241,Tryz.func241,by kernel_rfl⟩
theorem c242:OK 242 k242:=⟨by kernel_rfl,Tryz.f242,Tryz.func242,by kernel_rfl⟩
theorem c243:OK 243 k243:=⟨by kernel_rfl,Tryz.f243,Tryz.func243,by kernel_rfl⟩
theorem c249:OK 249 k249:=⟨by kernel_rfl,Tryz.f249,Tryz.func249,by kernel_rfl⟩
theorem c250:OK 250 k250:=⟨by kernel_rfl,Tryz.f250,Tryz.func250,by kernel_rfl⟩
theorem c251:OK 251 k251:=⟨by kernel_rfl,Tryz.f251,Tryz.func251,by kernel_rfl⟩
theorem c252:OK 252 k252:=⟨by kernel_rfl,Tryz.f252,Tryz.func252,by kernel_rfl⟩
theorem c253:OK 253 k253:=⟨by kernel_rfl,Tryz.f253,Tryz.func253,by kernel_rfl⟩
theorem c254:OK 254 k254:=⟨by kernel_rfl,Tryz.f254,Tryz.func254,by kernel_rfl⟩
theorem c256:OK 256 k256:=⟨by kernel_rfl,Tryz.f256,Tryz.func256,by kernel_rfl⟩
theorem c259:OK 259 k259:=⟨by kernel_rfl,Tryz.f259,Tryz.func259,by kernel_rfl⟩
theorem c260:OK 260 k260:=⟨by kernel_rfl,Tryz.f260,Tryz.func260,by kernel_rfl⟩
theorem c283:OK 283 k283:=⟨by kernel_rfl,Tryz.f283,Tryz.func283,by kernel_rfl⟩
theorem c285:OK 285 k285:=⟨by kernel_rfl,Tryz.f285,Tryz.func285,by kernel_rfl⟩
theorem c286:OK 286 k286:=⟨by kernel_rfl,Tryz.f286,Tryz.func286,by kernel_rfl⟩
theorem c287:OK 287 k287:=⟨by kernel_rfl,Tryz.f287,Tryz.func287,by kernel_rfl⟩
theorem c288:OK 288 k288:=⟨by kernel_rfl,Tryz.f288,Tryz.func288,by kernel_rfl⟩
def fnc0:FuncId→Option zab
 |12=>some k12
 |15=>some k15
 |16=>some k16
 |17=>some k17
 |18=>some k18
 |20=>some k20
 |21=>some k21
 |30=>some k30
 |37=>some k37
 |38=>some k38
 |40=>some k40
 |41=>some k41
 |43=>some k43
 |44=>some k44
 |45=>some k45
 |47=>some k47
 |48=>some k48
 |49=>some k49
 |50=>some k50
 |51=>some k51
 |52=>some k52
 |53=>some k53
 |54=>some k54
 |55=>some k55
 |56=>some k56
 |57=>some k57
 |58=>some k58
 |60=>some k60
 |61=>some k61
 |63=>some k63
 |64=>some k64
 |65=>some k65
 |_=>none
def fnc1:FuncId→Option zab
 |70=>some k70
 |71=>some k71
 |72=>some k72
 |73=>some k73
 |74=>some k74
 |75=>some k75
 |76=>some k76
 |78=>some k78
 |79=>some k79
 |80=>some k80
 |81=>some k81
 |82=>some k82
 |83=>some k83
 |85=>some k85
 |86=>some k86
 |87=>some k87
 |88=>some k88
 |89=>some k89
 |90=>some k90
 |91=>some k91
 |101=>some k101
 |102=>some k102
 |103=>some k103
 |104=>some k104
 |105=>some k105
 |106=>some k106
 |108=>some k108
 |111=>some k111
 |113=>some k113
 |114=>some k114
 |115=>some k115
 |116=>some k116
 |_=>none
def fnc2:FuncId→Option zab
 |117=>some k117
 |118=>some k118
 |119=>some k119
 |120=>some k120
 |123=>some k123
 |124=>some k124
 |125=>some k125
 |126=>some k126
 |127=>some k127
 |128=>some k128
 |129=>some k129
 |130=>some k130
 |131=>some k131
 |132=>some k132
 |133=>some k133
 |134=>some k134
 |135=>some k135
 |136=>some k136
 |138=>some k138
 |140=>some k140
 |141=>some k141
 |144=>some k144
 |145=>some k145
 |147=>some k147
 |148=>some k148
 |149=>some k149
 |154=>some k154
 |155=>some k155
 |156=>some k156
 |157=>some k157
 |159=>some k159
 |161=>some k161
 |_=>none
def fnc3:FuncId→Option zab
 |162=>some k162
 |163=>some k163
 |164=>some k164
 |165=>some k165
 |166=>some k166
 |167=>some k167
 |168=>some k168
 |169=>some k169
 |170=>some k170
 |171=>some k171
 |172=>some k172
 |173=>some k173
 |174=>some k174
 |175=>some k175
 |176=>some k176
 |179=>some k179
 |180=>some k180
 |181=>some k181
 |182=>some k182
 |183=>some k183
 |187=>some k187
 |189=>some k189
 |190=>some k190
 |191=>some k191
 |192=>some k192
 |194=>some k194
 |195=>some k195
 |196=>some k196
 |197=>some k197
 |198=>some k198
 |199=>some k199
 |200=>some k200
 |_=>none
def fnc4:FuncId→Option zab
 |201=>some k201
 |202=>some k202
 |203=>some k203
 |204=>some k204
 |205=>some k205
 |206=>some k206
 |207=>some k207
 |208=>some k208
 |209=>some k209
 |210=>some k210
 |211=>some k211
 |212=>some k212
 |213=>some k213
 |214=>some k214
 |215=>some k215
 |217=>some k217
 |218=>some k218
 |221=>some k221
 |224=>some k224
 |227=>some k227
 |229=>some k229
 |230=>some k230
 |233=>some k233
 |234=>some k234
 |235=>some k235
 |236=>some k236
 |237=>some k237
 |238=>some k238
 |239=>some k239
 |240=>some k240
 |241=>some k241
 |242=>some k242
 |_=>none
def fnc5:FuncId→Option zab
 |243=>some k243
 |249=>some k249
 |250=>some k250
 |251=>some k251
 |252=>some k252
 |253=>some k253
 |254=>some k254
 |256=>some k256
 |259=>some k259
 |260=>some k260
 |283=>some k283
 |285=>some k285
 |286=>some k286
 |287=>some k287
 |288=>some k288
 |_=>none
def F (f:FuncId):Option zab:=
 if f< 70 then fnc0 f else
 if f< 117 then fnc1 f else
 if f< 162 then fnc2 f else
 if f< 201 then fnc3 f else
 if f< 243 then fnc4 f else
 fnc5 f
def M:TypeId→String→Option (FuncId×Recv)
 |285, "Len"=>some (229,.ld)
 |285, "Less"=>some (285,.ld)
 |285, "Swap"=>some (288,.ld)
 |285, "Pop"=>some (286,.as)
 |285, "Push"=>some (287,.as)
 |133, "Len"=>some (139,.ld)
 |133, "Less"=>some (279,.ld)
 |133, "Swap"=>some (282,.ld)
 |133, "Pop"=>some (280,.as)
 |133, "Push"=>some (281,.as)
 |_,_=>none
theorem fnc0_ok:∀f k,fnc0 f=some k→OK f k:=by
 intro f k h
 unfold fnc0 at h
 split at h
 ·cases h;exact c12
 ·cases h;exact c15
 ·cases h;exact c16
 ·cases h;exact c17
 ·cases h;exact c18
 ·cases h;exact c20
 ·cases h;exact c21
 ·cases h;exact c30
 ·cases h;exact c37
 ·cases h;exact c38
 ·cases h;exact c40
 ·cases h;exact c41
 ·cases h;exact c43
 ·cases h;exact c44
 ·cases h;exact c45
 ·cases h;exact c47
 ·cases h;exact c48
 ·cases h;exact c49
 ·cases h;exact c50
 ·cases h;exact c51
 ·cases h;exact c52
 ·cases h;exact c53
 ·cases h;exact c54
 ·cases h;exact c55
 ·cases h;exact c56
 ·cases h;exact c57
 ·cases h;exact c58
 ·cases h;exact c60
 ·cases h;exact c61
 ·cases h;exact c63
 ·cases h;exact c64
 ·cases h;exact c65
 ·cases h
theorem fnc1_ok:∀f k,fnc1 f=some k→OK f k:=by
 intro f k h
 unfold fnc1 at h
 split at h
 ·cases h;exact c70
 ·cases h;exact c71
 ·cases h;exact c72
 ·cases h;exact c73
 ·cases h;exact c74
 ·cases h;exact c75
 ·cases h;exact c76
 ·cases h;exact c78
 ·cases h;exact c79
 ·cases h;exact c80
 ·cases h;exact c81
 ·cases h;exact c82
 ·cases h;exact c83
 ·cases h;exact c85
 ·cases h;exact c86
 ·cases h;exact c87
 ·cases h;exact c88
 ·cases h;exact c89
 ·cases h;exact c90
 ·cases h;exact c91
 ·cases h;exact c101
 ·cases h;exact c102
 ·cases h;exact c103
 ·cases h;exact c104
 ·cases h;exact c105
 ·cases h;exact c106
 ·cases h;exact c108
 ·cases h;exact c111
 ·cases h;exact c113
 ·cases h;exact c114
 ·cases h;exact c115
 ·cases h;exact c116
 ·cases h
theorem fnc2_ok:∀f k,fnc2 f=some k→OK f k:=by
 intro f k h
 unfold fnc2 at h
 split at h
 ·cases h;exact c117
 ·cases h;exact c118
 ·cases h;exact c119
 ·cases h;exact c120
 ·cases h;exact c123
 ·cases h;exact c124
 ·cases h;exact c125
 ·cases h;exact c126
 ·cases h;exact c127
 ·cases h;exact c128
 ·cases h;exact c129
 ·cases h;exact c130
 ·cases h;exact c131
 ·cases h;exact c132
 ·cases h;exact c133
 ·cases h;exact c134
 ·cases h;exact c135
 ·cases h;exact c136
 ·cases h;exact c138
 ·cases h;exact c140
 ·cases h;exact c141
 ·cases h;exact c144
 ·cases h;exact c145
 ·cases h;exact c147
 ·cases h;exact c148
 ·cases h;exact c149
 ·cases h;exact c154
 ·cases h;exact c155
 ·cases h;exact c156
 ·cases h;exact c157
 ·cases h;exact c159
 ·cases h;exact c161
 ·cases h
theorem fnc3_ok:∀f k,fnc3 f=some k→OK f k:=by
 intro f k h
 unfold fnc3 at h
 split at h
 ·cases h;exact c162
 ·cases h;exact c163
 ·cases h;exact c164
 ·cases h;exact c165
 ·cases h;exact c166
 ·cases h;exact c167
 ·cases h;exact c168
 ·cases h;exact c169
 ·cases h;exact c170
 ·cases h;exact c171
 ·cases h;exact c172
 ·cases h;exact c173
 ·cases h;exact c174
 ·cases h;exact c175
 ·cases h;exact c176
 ·cases h;exact c179
 ·cases h;exact c180
 ·cases h;exact c181
 ·cases h;exact c182
 ·cases h;exact c183
 ·cases h;exact c187
 ·cases h;exact c189
 ·cases h;exact c190
 ·cases h;exact c191
 ·cases h;exact c192
 ·cases h;exact c194
 ·cases h;exact c195
 ·cases h;exact c196
 ·cases h;exact c197
 ·cases h;exact c198
 ·cases h;exact c199
 ·cases h;exact c200
 ·cases h
theorem fnc4_ok:∀f k,fnc4 f=some k→OK f k:=by
 intro f k h
 unfold fnc4 at h
 split at h
 ·cases h;exact c201
 ·cases h;exact c202
 ·cases h;exact c203
 ·cases h;exact c204
 ·cases h;exact c205
 ·cases h;exact c206
 ·cases h;exact c207
 ·cases h;exact c208
 ·cases h;exact c209
 ·cases h;exact c210
 ·cases h;exact c211
 ·cases h;exact c212
 ·cases h;exact c213
 ·cases h;exact c214
 ·cases h;exact c215
 ·cases h;exact c217
 ·cases h;exact c218
 ·cases h;exact c221
 ·cases h;exact c224
 ·cases h;exact c227
 ·cases h;exact c229
 ·cases h;exact c230
 ·cases h;exact c233
 ·cases h;exact c234
 ·cases h;exact c235
 ·cases h;exact c236
 ·cases h;exact c237
 ·cases h;exact c238
 ·cases h;exact c239
 ·cases h;exact c240
 ·cases h;exact c241
 ·cases h;exact c242
 ·cases h
theorem fnc5_ok:∀f k,fnc5 f=some k→OK f k:=by
 intro f k h
 unfold fnc5 at h
 split at h
 ·cases h;exact c243
 ·cases h;exact c249
 ·cases h;exact c250
 ·cases h;exact c251
 ·cases h;exact c252
 ·cases h;exact c253
 ·cases h;exact c254
 ·cases h;exact c256
 ·cases h;exact c259
 ·cases h;exact c260
 ·cases h;exact c283
 ·cases h;exact c285
 ·cases h;exact c286
 ·cases h;exact c287
 ·cases h;exact c288
 ·cases h
theorem zqv:∀f k,F f=some k→zce Go.Proofs.Tryz.prog f=true∧∃fn,Go.Proofs.Tryz.prog.funcs[f]?=some fn∧zj4 Go.Proofs.Tryz.prog fn=some k:=by
 intro f k h
 unfold F at h
 by_cases h0:f<70
 ·rw [if_pos h0] at h;exact fnc0_ok f k h
 rw [if_neg h0] at h
 by_cases h1:f<117
 ·rw [if_pos h1] at h;exact fnc1_ok f k h
 rw [if_neg h1] at h
 by_cases h2:f<162
 ·rw [if_pos h2] at h;exact fnc2_ok f k h
 rw [if_neg h2] at h
 by_cases h3:f<201
 ·rw [if_pos h3] at h;exact fnc3_ok f k h
 rw [if_neg h3] at h
 by_cases h4:f<243
 ·rw [if_pos h4] at h;exact fnc4_ok f k h
 rw [if_neg h4] at h
 exact fnc5_ok f k h
theorem zqw:∀t n f r,M t n=some (f,r)→zg8 Go.Proofs.Tryz.prog t n f r=true:=by
 intro t n f r h
 unfold M at h
 split at h
 ·cases h;kernel_rfl
 ·cases h;kernel_rfl
 ·cases h;kernel_rfl
 ·cases h;kernel_rfl
 ·cases h;kernel_rfl
 ·cases h;kernel_rfl
 ·cases h;kernel_rfl
 ·cases h;kernel_rfl
 ·cases h;kernel_rfl
 ·cases h;kernel_rfl
 ·cases h
def s12 (S:Sys) (a0 a1:Value) (H:Heap) (R:Kv):Prop:=(⟨_,by
 simp only[k12,w1,sub,List.map,Option.map,↓reduceIte,Nat.reduceEqDiff]
 exact rfl⟩:Yw k12 S [a0,a1] H R).1
theorem w12 {S:Sys} (x:S.R 12=none) (y:S.F 12=some k12) (a0 a1:Value) {H:Heap} {R:Kv} (h:s12 S a0 a1 H R):Wf S 12 [a0,a1] H R:=Wz x y (@Subtype.property Prop (fun p=>wpC S k12.body _ H _=p) _) h
def s16 (S:Sys) (a0 a1 a2:Value) (H:Heap) (R:Kv):Prop:=(⟨_,by
 simp only[k16,w1,sub,List.map,Option.map,↓reduceIte,Nat.reduceEqDiff]
 exact rfl⟩:Yw k16 S [a0,a1,a2] H R).1
theorem w16 {S:Sys} (x:S.R 16=none) (y:S.F 16=some k16) (a0 a1 a2:Value) {H:Heap} {R:Kv} (h:s16 S a0 a1 a2 H R):Wf S 16 [a0,a1,a2] H R:=Wz x y (@Subtype.property Prop (fun p=>wpC S k16.body _ H _=p) _) h
def s17 (S:Sys) (a0 a1 a2:Value) (H:Heap) (R:Kv):Prop:=(⟨_,by
 simp only[k17,w1,sub,List.map,Option.map,↓reduceIte,Nat.reduceEqDiff]
 exact rfl⟩:Yw k17 S [a0,a1,a2] H R).1
theorem w17 {S:Sys} (x:S.R 17=none) (y:S.F 17=some k17) (a0 a1 a2:Value) {H:Heap} {R:Kv} (h:s17 S a0 a1 a2 H R):Wf S 17 [a0,a1,a2] H R:=Wz x y (@Subtype.property Prop (fun p=>wpC S k17.body _ H _=p) _) h
def s18 (S:Sys) (a0:Value) (H:Heap) (R:Kv):Prop:=(⟨_,by
 simp only[k18,w1,sub,List.map,Option.map,↓reduceIte,Nat.reduceEqDiff]
 exact rfl⟩:Yw k18 S [a0] H R).1
theorem w18 {S:Sys} (x:S.R 18=none) (y:S.F 18=some k18) (a0:Value) {H:Heap} {R:Kv} (h:s18 S a0 H R):Wf S 18 [a0] H R:=Wz x y (@Subtype.property Prop (fun p=>wpC S k18.body _ H _=p) _) h
def s30_0 (S:Sys) (e:Fe) (H:Heap) (Q:Kx):Prop:=(⟨_,by
 simp only[b30_0,w1,sub,List.map,Option.map,↓reduceIte,Nat.reduceEqDiff]
 exact rfl⟩:Yb b30_0 S e H Q).1
theorem h30_0 (S:Sys) (e:Fe) (H:Heap) (Q:Kx):wpC S b30_0 e H Q=s30_0 S e H Q:=@Subtype.property Prop (fun p=>wpC S b30_0 e H Q=p) _
def l30_0 (S:Sys) {Q:Kx}:=@WLi b30_0 s30_0 h30_0 S Q
def s30 (S:Sys) (a0:Value) (H:Heap) (R:Kv):Prop:=(⟨_,by
 simp only[k30,w1,sub,List.map,Option.map,↓reduceIte,Nat.reduceEqDiff]
 exact rfl⟩:Yw k30 S [a0] H R).1
theorem w30 {S:Sys} (x:S.R 30=none) (y:S.F 30=some k30) (a0:Value) {H:Heap} {R:Kv} (h:s30 S a0 H R):Wf S 30 [a0] H R:=Wz x y (@Subtype.property Prop (fun p=>wpC S k30.body _ H _=p) _) h
def s40_0 (S:Sys) (e:Fe) (H:Heap) (Q:Kx):Prop:=(⟨_,by
 simp only[b40_0,w1,sub,List.map,Option.map,↓reduceIte,Nat.reduceEqDiff]
 exact rfl⟩:Yb b40_0 S e H Q).1
theorem h40_0 (S:Sys) (e:Fe) (H:Heap) (Q:Kx):wpC S b40_0 e H Q=s40_0 S e H Q:=@Subtype.property Prop (fun p=>wpC S b40_0 e H Q=p) _
def l40_0 (S:Sys) {Q:Kx}:=@WLi b40_0 s40_0 h40_0 S Q
def s40 (S:Sys) (a0 a1:Value) (H:Heap) (R:Kv):Prop:=(⟨_,by
 simp only[k40,w1,sub,List.map,Option.map,↓reduceIte,Nat.reduceEqDiff]
 exact rfl⟩:Yw k40 S [a0,a1] H R).1
theorem w40 {S:Sys} (x:S.R 40=none) (y:S.F 40=some k40) (a0 a1:Value) {H:Heap} {R:Kv} (h:s40 S a0 a1 H R):Wf S 40 [a0,a1] H R:=Wz x y (@Subtype.property Prop (fun p=>wpC S k40.body _ H _=p) _) h
def s41_1 (S:Sys) (e:Fe) (H:Heap) (Q:Kx):Prop:=(⟨_,by
 simp only[b41_1,w1,sub,List.map,Option.map,↓reduceIte,Nat.reduceEqDiff]
 exact rfl⟩:Yb b41_1 S e H Q).1
theorem h41_1 (S:Sys) (e:Fe) (H:Heap) (Q:Kx):wpC S b41_1 e H Q=s41_1 S e H Q:=@Subtype.property Prop (fun p=>wpC S b41_1 e H Q=p) _
def l41_1 (S:Sys) {Q:Kx}:=@WLi b41_1 s41_1 h41_1 S Q
def s41_0 (S:Sys) (e:Fe) (H:Heap) (Q:Kx):Prop:=(⟨_,by
 simp only[b41_0,w1,sub,List.map,Option.map,↓reduceIte,Nat.reduceEqDiff]
 exact rfl⟩:Yb b41_0 S e H Q).1
theorem h41_0 (S:Sys) (e:Fe) (H:Heap) (Q:Kx):wpC S b41_0 e H Q=s41_0 S e H Q:=@Subtype.property Prop (fun p=>wpC S b41_0 e H Q=p) _
def l41_0 (S:Sys) {Q:Kx}:=@WLi b41_0 s41_0 h41_0 S Q
def s41 (S:Sys) (a0 a1:Value) (H:Heap) (R:Kv):Prop:=(⟨_,by
 simp only[k41,w1,sub,List.map,Option.map,↓reduceIte,Nat.reduceEqDiff]
 exact rfl⟩:Yw k41 S [a0,a1] H R).1
theorem w41 {S:Sys} (x:S.R 41=none) (y:S.F 41=some k41) (a0 a1:Value) {H:Heap} {R:Kv} (h:s41 S a0 a1 H R):Wf S 41 [a0,a1] H R:=Wz x y (@Subtype.property Prop (fun p=>wpC S k41.body _ H _=p) _) h
def s43 (S:Sys) (a0:Value) (H:Heap) (R:Kv):Prop:=(⟨_,by
 simp only[k43,w1,sub,List.map,Option.map,↓reduceIte,Nat.reduceEqDiff]
 exact rfl⟩:Yw k43 S [a0] H R).1
theorem w43 {S:Sys} (x:S.R 43=none) (y:S.F 43=some k43) (a0:Value) {H:Heap} {R:Kv} (h:s43 S a0 H R):Wf S 43 [a0] H R:=Wz x y (@Subtype.property Prop (fun p=>wpC S k43.body _ H _=p) _) h
def s44_0 (S:Sys) (e:Fe) (H:Heap) (Q:Kx):Prop:=(⟨_,by
 simp only[b44_0,w1,sub,List.map,Option.map,↓reduceIte,Nat.reduceEqDiff]
 exact rfl⟩:Yb b44_0 S e H Q).1
theorem h44_0 (S:Sys) (e:Fe) (H:Heap) (Q:Kx):wpC S b44_0 e H Q=s44_0 S e H Q:=@Subtype.property Prop (fun p=>wpC S b44_0 e H Q=p) _
def l44_0 (S:Sys) {Q:Kx}:=@WLi b44_0 s44_0 h44_0 S Q
def s44 (S:Sys) (a0 a1:Value) (H:Heap) (R:Kv):Prop:=(⟨_,by
 simp only[k44,w1,sub,List.map,Option.map,↓reduceIte,Nat.reduceEqDiff]
 exact rfl⟩:Yw k44 S [a0,a1] H R).1
theorem w44 {S:Sys} (x:S.R 44=none) (y:S.F 44=some k44) (a0 a1:Value) {H:Heap} {R:Kv} (h:s44 S a0 a1 H R):Wf S 44 [a0,a1] H R:=Wz x y (@Subtype.property Prop (fun p=>wpC S k44.body _ H _=p) _) h
def s45_1 (S:Sys) (e:Fe) (H:Heap) (Q:Kx):Prop:=(⟨_,by
 simp only[b45_1,w1,sub,List.map,Option.map,↓reduceIte,Nat.reduceEqDiff]
 exact rfl⟩:Yb b45_1 S e H Q).1
theorem h45_1 (S:Sys) (e:Fe) (H:Heap) (Q:Kx):wpC S b45_1 e H Q=s45_1 S e H Q:=@Subtype.property Prop (fun p=>wpC S b45_1 e H Q=p) _
def l45_1 (S:Sys) {Q:Kx}:=@WLi b45_1 s45_1 h45_1 S Q
def s45_0 (S:Sys) (e:Fe) (H:Heap) (Q:Kx):Prop:=(⟨_,by
 simp only[b45_0,w1,sub,List.map,Option.map,↓reduceIte,Nat.reduceEqDiff]
 exact rfl⟩:Yb b45_0 S e H Q).1
theorem h45_0 (S:Sys) (e:Fe) (H:Heap) (Q:Kx):wpC S b45_0 e H Q=s45_0 S e H Q:=@Subtype.property Prop (fun p=>wpC S b45_0 e H Q=p) _
def l45_0 (S:Sys) {Q:Kx}:=@WLi b45_0 s45_0 h45_0 S Q
def s45 (S:Sys) (a0:Value) (H:Heap) (R:Kv):Prop:=(⟨_,by
 simp only[k45,w1,sub,List.map,Option.map,↓reduceIte,Nat.reduceEqDiff]
 exact rfl⟩:Yw k45 S [a0] H R).1
theorem w45 {S:Sys} (x:S.R 45=none) (y:S.F 45=some k45) (a0:Value) {H:Heap} {R:Kv} (h:s45 S a0 H R):Wf S 45 [a0] H R:=Wz x y (@Subtype.property Prop (fun p=>wpC S k45.body _ H _=p) _) h
def s48 (S:Sys) (a0:Value) (H:Heap) (R:Kv):Prop:=(⟨_,by
 simp only[k48,w1,sub,List.map,Option.map,↓reduceIte,Nat.reduceEqDiff]
 exact rfl⟩:Yw k48 S [a0] H R).1
theorem w48 {S:Sys} (x:S.R 48=none) (y:S.F 48=some k48) (a0:Value) {H:Heap} {R:Kv} (h:s48 S a0 H R):Wf S 48 [a0] H R:=Wz x y (@Subtype.property Prop (fun p=>wpC S k48.body _ H _=p) _) h
def s52 (S:Sys) (a0:Value) (H:Heap) (R:Kv):Prop:=(⟨_,by
 simp only[k52,w1,sub,List.map,Option.map,↓reduceIte,Nat.reduceEqDiff]
 exact rfl⟩:Yw k52 S [a0] H R).1
theorem w52 {S:Sys} (x:S.R 52=none) (y:S.F 52=some k52) (a0:Value) {H:Heap} {R:Kv} (h:s52 S a0 H R):Wf S 52 [a0] H R:=Wz x y (@Subtype.property Prop (fun p=>wpC S k52.body _ H _=p) _) h
def s53 (S:Sys) (a0:Value) (H:Heap) (R:Kv):Prop:=(⟨_,by
 simp only[k53,w1,sub,List.map,Option.map,↓reduceIte,Nat.reduceEqDiff]
 exact rfl⟩:Yw k53 S [a0] H R).1
theorem w53 {S:Sys} (x:S.R 53=none) (y:S.F 53=some k53) (a0:Value) {H:Heap} {R:Kv} (h:s53 S a0 H R):Wf S 53 [a0] H R:=Wz x y (@Subtype.property Prop (fun p=>wpC S k53.body _ H _=p) _) h
def s54 (S:Sys) (a0 a1 a2:Value) (H:Heap) (R:Kv):Prop:=(⟨_,by
 simp only[k54,w1,sub,List.map,Option.map,↓reduceIte,Nat.reduceEqDiff]
 exact rfl⟩:Yw k54 S [a0,a1,a2] H R).1
theorem w54 {S:Sys} (x:S.R 54=none) (y:S.F 54=some k54) (a0 a1 a2:Value) {H:Heap} {R:Kv} (h:s54 S a0 a1 a2 H R):Wf S 54 [a0,a1,a2] H R:=Wz x y (@Subtype.property Prop (fun p=>wpC S k54.body _ H _=p) _) h
def s55_0 (S:Sys) (e:Fe) (H:Heap) (Q:Kx):Prop:=(⟨_,by
 simp only[b55_0,w1,sub,List.map,Option.map,↓reduceIte,Nat.reduceEqDiff]
 exact rfl⟩:Yb b55_0 S e H Q).1
theorem h55_0 (S:Sys) (e:Fe) (H:Heap) (Q:Kx):wpC S b55_0 e H Q=s55_0 S e H Q:=@Subtype.property Prop (fun p=>wpC S b55_0 e H Q=p) _
def l55_0 (S:Sys) {Q:Kx}:=@WLi b55_0 s55_0 h55_0 S Q
def s55 (S:Sys) (a0 a1 a2 a3:Value) (H:Heap) (R:Kv):Prop:=(⟨_,by
 simp only[k55,w1,sub,List.map,Option.map,↓reduceIte,Nat.reduceEqDiff]
 exact rfl⟩:Yw k55 S [a0,a1,a2,a3] H R).1
theorem w55 {S:Sys} (x:S.R 55=none) (y:S.F 55=some k55) (a0 a1 a2 a3:Value) {H:Heap} {R:Kv} (h:s55 S a0 a1 a2 a3 H R):Wf S 55 [a0,a1,a2,a3] H R:=Wz x y (@Subtype.property Prop (fun p=>wpC S k55.body _ H _=p) _) h
def s56_0 (S:Sys) (e:Fe) (H:Heap) (Q:Kx):Prop:=(⟨_,by
 simp only[b56_0,w1,sub,List.map,Option.map,↓reduceIte,Nat.reduceEqDiff]
 exact rfl⟩:Yb b56_0 S e H Q).1
theorem h56_0 (S:Sys) (e:Fe) (H:Heap) (Q:Kx):wpC S b56_0 e H Q=s56_0 S e H Q:=@Subtype.property Prop (fun p=>wpC S b56_0 e H Q=p) _
def l56_0 (S:Sys) {Q:Kx}:=@WLi b56_0 s56_0 h56_0 S Q
def s56 (S:Sys) (a0:Value) (H:Heap) (R:Kv):Prop:=(⟨_,by
 simp only[k56,w1,sub,List.map,Option.map,↓reduceIte,Nat.reduceEqDiff]
 exact rfl⟩:Yw k56 S [a0] H R).1
theorem w56 {S:Sys} (x:S.R 56=none) (y:S.F 56=some k56) (a0:Value) {H:Heap} {R:Kv} (h:s56 S a0 H R):Wf S 56 [a0] H R:=Wz x y (@Subtype.property Prop (fun p=>wpC S k56.body _ H _=p) _) h
def s57_0 (S:Sys) (e:Fe) (H:Heap) (Q:Kx):Prop:=(⟨_,by
 simp only[b57_0,w1,sub,List.map,Option.map,↓reduceIte,Nat.reduceEqDiff]
 exact rfl⟩:Yb b57_0 S e H Q).1
theorem h57_0 (S:Sys) (e:Fe) (H:Heap) (Q:Kx):wpC S b57_0 e H Q=s57_0 S e H Q:=@Subtype.property Prop (fun p=>wpC S b57_0 e H Q=p) _
def l57_0 (S:Sys) {Q:Kx}:=@WLi b57_0 s57_0 h57_0 S Q
def s57 (S:Sys) (a0:Value) (H:Heap) (R:Kv):Prop:=(⟨_,by
 simp only[k57,w1,sub,List.map,Option.map,↓reduceIte,Nat.reduceEqDiff]
 exact rfl⟩:Yw k57 S [a0] H R).1
theorem w57 {S:Sys} (x:S.R 57=none) (y:S.F 57=some k57) (a0:Value) {H:Heap} {R:Kv} (h:s57 S a0 H R):Wf S 57 [a0] H R:=Wz x y (@Subtype.property Prop (fun p=>wpC S k57.body _ H _=p) _) h
def s60 (S:Sys) (a0 a1:Value) (H:Heap) (R:Kv):Prop:=(⟨_,by
 simp only[k60,w1,sub,List.map,Option.map,↓reduceIte,Nat.reduceEqDiff]
 exact rfl⟩:Yw k60 S [a0,a1] H R).1
theorem w60 {S:Sys} (x:S.R 60=none) (y:S.F 60=some k60) (a0 a1:Value) {H:Heap} {R:Kv} (h:s60 S a0 a1 H R):Wf S 60 [a0,a1] H R:=Wz x y (@Subtype.property Prop (fun p=>wpC S k60.body _ H _=p) _) h
def s61 (S:Sys) (a0:Value) (H:Heap) (R:Kv):Prop:=(⟨_,by
 simp only[k61,w1,sub,List.map,Option.map,↓reduceIte,Nat.reduceEqDiff]
 exact rfl⟩:Yw k61 S [a0] H R).1
theorem w61 {S:Sys} (x:S.R 61=none) (y:S.F 61=some k61) (a0:Value) {H:Heap} {R:Kv} (h:s61 S a0 H R):Wf S 61 [a0] H R:=Wz x y (@Subtype.property Prop (fun p=>wpC S k61.body _ H _=p) _) h
def s63 (S:Sys) (a0:Value) (H:Heap) (R:Kv):Prop:=(⟨_,by
 simp only[k63,w1,sub,List.map,Option.map,↓reduceIte,Nat.reduceEqDiff]
 exact rfl⟩:Yw k63 S [a0] H R).1
theorem w63 {S:Sys} (x:S.R 63=none) (y:S.F 63=some k63) (a0:Value) {H:Heap} {R:Kv} (h:s63 S a0 H R):Wf S 63 [a0] H R:=Wz x y (@Subtype.property Prop (fun p=>wpC S k63.body _ H _=p) _) h
def s71_0 (S:Sys) (e:Fe) (H:Heap) (Q:Kx):Prop:=(⟨_,by
 simp only[b71_0,w1,sub,List.map,Option.map,↓reduceIte,Nat.reduceEqDiff]
 exact rfl⟩:Yb b71_0 S e H Q).1
theorem h71_0 (S:Sys) (e:Fe) (H:Heap) (Q:Kx):wpC S b71_0 e H Q=s71_0 S e H Q:=@Subtype.property Prop (fun p=>wpC S b71_0 e H Q=p) _
def l71_0 (S:Sys) {Q:Kx}:=@WLi b71_0 s71_0 h71_0 S Q
def s71 (S:Sys) (a0:Value) (H:Heap) (R:Kv):Prop:=(⟨_,by
 simp only[k71,w1,sub,List.map,Option.map,↓reduceIte,Nat.reduceEqDiff]
 exact rfl⟩:Yw k71 S [a0] H R).1
theorem w71 {S:Sys} (x:S.R 71=none) (y:S.F 71=some k71) (a0:Value) {H:Heap} {R:Kv} (h:s71 S a0 H R):Wf S 71 [a0] H R:=Wz x y (@Subtype.property Prop (fun p=>wpC S k71.body _ H _=p) _) h
def s72 (S:Sys) (a0:Value) (H:Heap) (R:Kv):Prop:=(⟨_,by
 simp only[k72,w1,sub,List.map,Option.map,↓reduceIte,Nat.reduceEqDiff]
 exact rfl⟩:Yw k72 S [a0] H R).1
theorem w72 {S:Sys} (x:S.R 72=none) (y:S.F 72=some k72) (a0:Value) {H:Heap} {R:Kv} (h:s72 S a0 H R):Wf S 72 [a0] H R:=Wz x y (@Subtype.property Prop (fun p=>wpC S k72.body _ H _=p) _) h
def s78 (S:Sys) (H:Heap) (R:Kv):Prop:=(⟨_,by
 simp only[k78,w1,sub,List.map,Option.map,↓reduceIte,Nat.reduceEqDiff]
 exact rfl⟩:Yw k78 S [] H R).1
theorem w78 {S:Sys} (x:S.R 78=none) (y:S.F 78=some k78) {H:Heap} {R:Kv} (h:s78 S H R):Wf S 78 [] H R:=Wz x y (@Subtype.property Prop (fun p=>wpC S k78.body _ H _=p) _) h
def s79_0 (S:Sys) (e:Fe) (H:Heap) (Q:Kx):Prop:=(⟨_,by
 simp only[b79_0,w1,sub,List.map,Option.map,↓reduceIte,Nat.reduceEqDiff]
 exact rfl⟩:Yb b79_0 S e H Q).1
theorem h79_0 (S:Sys) (e:Fe) (H:Heap) (Q:Kx):wpC S b79_0 e H Q=s79_0 S e H Q:=@Subtype.property Prop (fun p=>wpC S b79_0 e H Q=p) _
def l79_0 (S:Sys) {Q:Kx}:=@WLi b79_0 s79_0 h79_0 S Q
def s79 (S:Sys) (a0 a1:Value) (H:Heap) (R:Kv):Prop:=(⟨_,by
 simp only[k79,w1,sub,List.map,Option.map,↓reduceIte,Nat.reduceEqDiff]
 exact rfl⟩:Yw k79 S [a0,a1] H R).1
theorem w79 {S:Sys} (x:S.R 79=none) (y:S.F 79=some k79) (a0 a1:Value) {H:Heap} {R:Kv} (h:s79 S a0 a1 H R):Wf S 79 [a0,a1] H R:=Wz x y (@Subtype.property Prop (fun p=>wpC S k79.body _ H _=p) _) h
def s80 (S:Sys) (a0:Value) (H:Heap) (R:Kv):Prop:=(⟨_,by
 simp only[k80,w1,sub,List.map,Option.map,↓reduceIte,Nat.reduceEqDiff]
 exact rfl⟩:Yw k80 S [a0] H R).1
theorem w80 {S:Sys} (x:S.R 80=none) (y:S.F 80=some k80) (a0:Value) {H:Heap} {R:Kv} (h:s80 S a0 H R):Wf S 80 [a0] H R:=Wz x y (@Subtype.property Prop (fun p=>wpC S k80.body _ H _=p) _) h
def s82_0 (S:Sys) (e:Fe) (H:Heap) (Q:Kx):Prop:=(⟨_,by
 simp only[b82_0,w1,sub,List.map,Option.map,↓reduceIte,Nat.reduceEqDiff]
 exact rfl⟩:Yb b82_0 S e H Q).1
theorem h82_0 (S:Sys) (e:Fe) (H:Heap) (Q:Kx):wpC S b82_0 e H Q=s82_0 S e H Q:=@Subtype.property Prop (fun p=>wpC S b82_0 e H Q=p) _
def l82_0 (S:Sys) {Q:Kx}:=@WLi b82_0 s82_0 h82_0 S Q
def u82_0 (S:Sys) {Q:Kx} {e:Fe} {H:Heap}:=@WLu b82_0 s82_0 h82_0 S Q e H
def s82 (S:Sys) (a0 a1:Value) (H:Heap) (R:Kv):Prop:=(⟨_,by
 simp only[k82,w1,sub,List.map,Option.map,↓reduceIte,Nat.reduceEqDiff]
 exact rfl⟩:Yw k82 S [a0,a1] H R).1
theorem w82 {S:Sys} (x:S.R 82=none) (y:S.F 82=some k82) (a0 a1:Value) {H:Heap} {R:Kv} (h:s82 S a0 a1 H R):Wf S 82 [a0,a1] H R:=Wz x y (@Subtype.property Prop (fun p=>wpC S k82.body _ H _=p) _) h
def s83 (S:Sys) (a0 a1:Value) (H:Heap) (R:Kv):Prop:=(⟨_,by
 simp only[k83,w1,sub,List.map,Option.map,↓reduceIte,Nat.reduceEqDiff]
 exact rfl⟩:Yw k83 S [a0,a1] H R).1
theorem w83 {S:Sys} (x:S.R 83=none) (y:S.F 83=some k83) (a0 a1:Value) {H:Heap} {R:Kv} (h:s83 S a0 a1 H R):Wf S 83 [a0,a1] H R:=Wz x y (@Subtype.property Prop (fun p=>wpC S k83.body _ H _=p) _) h
def s85 (S:Sys) (a0 a1 a2:Value) (H:Heap) (R:Kv):Prop:=(⟨_,by
 simp only[k85,w1,sub,List.map,Option.map,↓reduceIte,Nat.reduceEqDiff]
 exact rfl⟩:Yw k85 S [a0,a1,a2] H R).1
theorem w85 {S:Sys} (x:S.R 85=none) (y:S.F 85=some k85) (a0 a1 a2:Value) {H:Heap} {R:Kv} (h:s85 S a0 a1 a2 H R):Wf S 85 [a0,a1,a2] H R:=Wz x y (@Subtype.property Prop (fun p=>wpC S k85.body _ H _=p) _) h
def s86_0 (S:Sys) (e:Fe) (H:Heap) (Q:Kx):Prop:=(⟨_,by
 simp only[b86_0,w1,sub,List.map,Option.map,↓reduceIte,Nat.reduceEqDiff]
 exact rfl⟩:Yb b86_0 S e H Q).1
theorem h86_0 (S:Sys) (e:Fe) (H:Heap) (Q:Kx):wpC S b86_0 e H Q=s86_0 S e H Q:=@Subtype.property Prop (fun p=>wpC S b86_0 e H Q=p) _
def l86_0 (S:Sys) {Q:Kx}:=@WLi b86_0 s86_0 h86_0 S Q
def s86 (S:Sys) (a0 a1:Value) (H:Heap) (R:Kv):Prop:=(⟨_,by
 simp only[k86,w1,sub,List.map,Option.map,↓reduceIte,Nat.reduceEqDiff]
 exact rfl⟩:Yw k86 S [a0,a1] H R).1
theorem w86 {S:Sys} (x:S.R 86=none) (y:S.F 86=some k86) (a0 a1:Value) {H:Heap} {R:Kv} (h:s86 S a0 a1 H R):Wf S 86 [a0,a1] H R:=Wz x y (@Subtype.property Prop (fun p=>wpC S k86.body _ H _=p) _) h
def s87_2 (S:Sys) (e:Fe) (H:Heap) (Q:Kx):Prop:=(⟨_,by
 simp only[b87_2,w1,sub,List.map,Option.map,↓reduceIte,Nat.reduceEqDiff]
 exact rfl⟩:Yb b87_2 S e H Q).1
theorem h87_2 (S:Sys) (e:Fe) (H:Heap) (Q:Kx):wpC S b87_2 e H Q=s87_2 S e H Q:=@Subtype.property Prop (fun p=>wpC S b87_2 e H Q=p) _
def l87_2 (S:Sys) {Q:Kx}:=@WLi b87_2 s87_2 h87_2 S Q
def s87_1 (S:Sys) (e:Fe) (H:Heap) (Q:Kx):Prop:=(⟨_,by
 simp only[b87_1,w1,sub,List.map,Option.map,↓reduceIte,Nat.reduceEqDiff]
 exact rfl⟩:Yb b87_1 S e H Q).1
theorem h87_1 (S:Sys) (e:Fe) (H:Heap) (Q:Kx):wpC S b87_1 e H Q=s87_1 S e H Q:=@Subtype.property Prop (fun p=>wpC S b87_1 e H Q=p) _
def l87_1 (S:Sys) {Q:Kx}:=@WLi b87_1 s87_1 h87_1 S Q
def s87_0 (S:Sys) (e:Fe) (H:Heap) (Q:Kx):Prop:=(⟨_,by
 simp only[b87_0,w1,sub,List.map,Option.map,↓reduceIte,Nat.reduceEqDiff]
 exact rfl⟩:Yb b87_0 S e H Q).1
theorem h87_0 (S:Sys) (e:Fe) (H:Heap) (Q:Kx):wpC S b87_0 e H Q=s87_0 S e H Q:=@Subtype.property Prop (fun p=>wpC S b87_0 e H Q=p) _
def l87_0 (S:Sys) {Q:Kx}:=@WLi b87_0 s87_0 h87_0 S Q
def s87 (S:Sys) (a0 a1:Value) (H:Heap) (R:Kv):Prop:=(⟨_,by
 simp only[k87,w1,sub,List.map,Option.map,↓reduceIte,Nat.reduceEqDiff]
 exact rfl⟩:Yw k87 S [a0,a1] H R).1
theorem w87 {S:Sys} (x:S.R 87=none) (y:S.F 87=some k87) (a0 a1:Value) {H:Heap} {R:Kv} (h:s87 S a0 a1 H R):Wf S 87 [a0,a1] H R:=Wz x y (@Subtype.property Prop (fun p=>wpC S k87.body _ H _=p) _) h
def s88_1 (S:Sys) (e:Fe) (H:Heap) (Q:Kx):Prop:=(⟨_,by
 simp only[b88_1,w1,sub,List.map,Option.map,↓reduceIte,Nat.reduceEqDiff]
 exact rfl⟩:Yb b88_1 S e H Q).1
theorem h88_1 (S:Sys) (e:Fe) (H:Heap) (Q:Kx):wpC S b88_1 e H Q=s88_1 S e H Q:=@Subtype.property Prop (fun p=>wpC S b88_1 e H Q=p) _
def l88_1 (S:Sys) {Q:Kx}:=@WLi b88_1 s88_1 h88_1 S Q
def s88_0 (S:Sys) (e:Fe) (H:Heap) (Q:Kx):Prop:=(⟨_,by
 simp only[b88_0,w1,sub,List.map,Option.map,↓reduceIte,Nat.reduceEqDiff]
 exact rfl⟩:Yb b88_0 S e H Q).1
theorem h88_0 (S:Sys) (e:Fe) (H:Heap) (Q:Kx):wpC S b88_0 e H Q=s88_0 S e H Q:=@Subtype.property Prop (fun p=>wpC S b88_0 e H Q=p) _
def l88_0 (S:Sys) {Q:Kx}:=@WLi b88_0 s88_0 h88_0 S Q
def s88 (S:Sys) (a0 a1 a2 a3:Value) (H:Heap) (R:Kv):Prop:=(⟨_,by
 simp only[k88,w1,sub,List.map,Option.map,↓reduceIte,Nat.reduceEqDiff]
 exact rfl⟩:Yw k88 S [a0,a1,a2,a3] H R).1
theorem w88 {S:Sys} (x:S.R 88=none) (y:S.F 88=some k88) (a0 a1 a2 a3:Value) {H:Heap} {R:Kv} (h:s88 S a0 a1 a2 a3 H R):Wf S 88 [a0,a1,a2,a3] H R:=Wz x y (@Subtype.property Prop (fun p=>wpC S k88.body _ H _=p) _) h
def s89_0 (S:Sys) (e:Fe) (H:Heap) (Q:Kx):Prop:=(⟨_,by
 simp only[b89_0,w1,sub,List.map,Option.map,↓reduceIte,Nat.reduceEqDiff]
 exact rfl⟩:Yb b89_0 S e H Q).1
theorem h89_0 (S:Sys) (e:Fe) (H:Heap) (Q:Kx):wpC S b89_0 e H Q=s89_0 S e H Q:=@Subtype.property Prop (fun p=>wpC S b89_0 e H Q=p) _
def l89_0 (S:Sys) {Q:Kx}:=@WLi b89_0 s89_0 h89_0 S Q
def u89_0 (S:Sys) {Q:Kx} {e:Fe} {H:Heap}:=@WLu b89_0 s89_0 h89_0 S Q e H
def s89 (S:Sys) (a0:Value) (H:Heap) (R:Kv):Prop:=(⟨_,by
 simp only[k89,w1,sub,List.map,Option.map,↓reduceIte,Nat.reduceEqDiff]
 exact rfl⟩:Yw k89 S [a0] H R).1
theorem w89 {S:Sys} (x:S.R 89=none) (y:S.F 89=some k89) (a0:Value) {H:Heap} {R:Kv} (h:s89 S a0 H R):Wf S 89 [a0] H R:=Wz x y (@Subtype.property Prop (fun p=>wpC S k89.body _ H _=p) _) h
def s90 (S:Sys) (a0:Value) (H:Heap) (R:Kv):Prop:=(⟨_,by
 simp only[k90,w1,sub,List.map,Option.map,↓reduceIte,Nat.reduceEqDiff]
 exact rfl⟩:Yw k90 S [a0] H R).1
theorem w90 {S:Sys} (x:S.R 90=none) (y:S.F 90=some k90) (a0:Value) {H:Heap} {R:Kv} (h:s90 S a0 H R):Wf S 90 [a0] H R:=Wz x y (@Subtype.property Prop (fun p=>wpC S k90.body _ H _=p) _) h
def s91 (S:Sys) (a0 a1:Value) (H:Heap) (R:Kv):Prop:=(⟨_,by
 simp only[k91,w1,sub,List.map,Option.map,↓reduceIte,Nat.reduceEqDiff]
 exact rfl⟩:Yw k91 S [a0,a1] H R).1
theorem w91 {S:Sys} (x:S.R 91=none) (y:S.F 91=some k91) (a0 a1:Value) {H:Heap} {R:Kv} (h:s91 S a0 a1 H R):Wf S 91 [a0,a1] H R:=Wz x y (@Subtype.property Prop (fun p=>wpC S k91.body _ H _=p) _) h
def s104_0 (S:Sys) (e:Fe) (H:Heap) (Q:Kx):Prop:=(⟨_,by
 simp only[b104_0,w1,sub,List.map,Option.map,↓reduceIte,Nat.reduceEqDiff]
 exact rfl⟩:Yb b104_0 S e H Q).1
theorem h104_0 (S:Sys) (e:Fe) (H:Heap) (Q:Kx):wpC S b104_0 e H Q=s104_0 S e H Q:=@Subtype.property Prop (fun p=>wpC S b104_0 e H Q=p) _
def l104_0 (S:Sys) {Q:Kx}:=@WLi b104_0 s104_0 h104_0 S Q
def s104 (S:Sys) (a0:Value) (H:Heap) (R:Kv):Prop:=(⟨_,by
 simp only[k104,w1,sub,List.map,Option.map,↓reduceIte,Nat.reduceEqDiff]
 exact rfl⟩:Yw k104 S [a0] H R).1
theorem w104 {S:Sys} (x:S.R 104=none) (y:S.F 104=some k104) (a0:Value) {H:Heap} {R:Kv} (h:s104 S a0 H R):Wf S 104 [a0] H R:=Wz x y (@Subtype.property Prop (fun p=>wpC S k104.body _ H _=p) _) h
def s108 (S:Sys) (H:Heap) (R:Kv):Prop:=(⟨_,by
 simp only[k108,w1,sub,List.map,Option.map,↓reduceIte,Nat.reduceEqDiff]
 exact rfl⟩:Yw k108 S [] H R).1
theorem w108 {S:Sys} (x:S.R 108=none) (y:S.F 108=some k108) {H:Heap} {R:Kv} (h:s108 S H R):Wf S 108 [] H R:=Wz x y (@Subtype.property Prop (fun p=>wpC S k108.body _ H _=p) _) h
def s118 (S:Sys) (a0 a1:Value) (H:Heap) (R:Kv):Prop:=(⟨_,by
 simp only[k118,w1,sub,List.map,Option.map,↓reduceIte,Nat.reduceEqDiff]
 exact rfl⟩:Yw k118 S [a0,a1] H R).1
theorem w118 {S:Sys} (x:S.R 118=none) (y:S.F 118=some k118) (a0 a1:Value) {H:Heap} {R:Kv} (h:s118 S a0 a1 H R):Wf S 118 [a0,a1] H R:=Wz x y (@Subtype.property Prop (fun p=>wpC S k118.body _ H _=p) _) h
def s119 (S:Sys) (a0:Value) (H:Heap) (R:Kv):Prop:=(⟨_,by
 simp only[k119,w1,sub,List.map,Option.map,↓reduceIte,Nat.reduceEqDiff]
 exact rfl⟩:Yw k119 S [a0] H R).1
theorem w119 {S:Sys} (x:S.R 119=none) (y:S.F 119=some k119) (a0:Value) {H:Heap} {R:Kv} (h:s119 S a0 H R):Wf S 119 [a0] H R:=Wz x y (@Subtype.property Prop (fun p=>wpC S k119.body _ H _=p) _) h
def s120 (S:Sys) (a0 a1:Value) (H:Heap) (R:Kv):Prop:=(⟨_,by
 simp only[k120,w1,sub,List.map,Option.map,↓reduceIte,Nat.reduceEqDiff]
 exact rfl⟩:Yw k120 S [a0,a1] H R).1
theorem w120 {S:Sys} (x:S.R 120=none) (y:S.F 120=some k120) (a0 a1:Value) {H:Heap} {R:Kv} (h:s120 S a0 a1 H R):Wf S 120 [a0,a1] H R:=Wz x y (@Subtype.property Prop (fun p=>wpC S k120.body _ H _=p) _) h
def s123 (S:Sys) (a0 a1:Value) (H:Heap) (R:Kv):Prop:=(⟨_,by
 simp only[k123,w1,sub,List.map,Option.map,↓reduceIte,Nat.reduceEqDiff]
 exact rfl⟩:Yw k123 S [a0,a1] H R).1
theorem w123 {S:Sys} (x:S.R 123=none) (y:S.F 123=some k123) (a0 a1:Value) {H:Heap} {R:Kv} (h:s123 S a0 a1 H R):Wf S 123 [a0,a1] H R:=Wz x y (@Subtype.property Prop (fun p=>wpC S k123.body _ H _=p) _) h
def s124_1 (S:Sys) (e:Fe) (H:Heap) (Q:Kx):Prop:=(⟨_,by
 simp only[b124_1,w1,sub,List.map,Option.map,↓reduceIte,Nat.reduceEqDiff]
 exact rfl⟩:Yb b124_1 S e H Q).1
theorem h124_1 (S:Sys) (e:Fe) (H:Heap) (Q:Kx):wpC S b124_1 e H Q=s124_1 S e H Q:=@Subtype.property Prop (fun p=>wpC S b124_1 e H Q=p) _
def l124_1 (S:Sys) {Q:Kx}:=@WLi b124_1 s124_1 h124_1 S Q
def s124_0 (S:Sys) (e:Fe) (H:Heap) (Q:Kx):Prop:=(⟨_,by
 simp only[b124_0,w1,sub,List.map,Option.map,↓reduceIte,Nat.reduceEqDiff]
 exact rfl⟩:Yb b124_0 S e H Q).1
theorem h124_0 (S:Sys) (e:Fe) (H:Heap) (Q:Kx):wpC S b124_0 e H Q=s124_0 S e H Q:=@Subtype.property Prop (fun p=>wpC S b124_0 e H Q=p) _
def l124_0 (S:Sys) {Q:Kx}:=@WLi b124_0 s124_0 h124_0 S Q
def s124 (S:Sys) (a0 a1:Value) (H:Heap) (R:Kv):Prop:=(⟨_,by
 simp only[k124,w1,sub,List.map,Option.map,↓reduceIte,Nat.reduceEqDiff]
 exact rfl⟩:Yw k124 S [a0,a1] H R).1
theorem w124 {S:Sys} (x:S.R 124=none) (y:S.F 124=some k124) (a0 a1:Value) {H:Heap} {R:Kv} (h:s124 S a0 a1 H R):Wf S 124 [a0,a1] H R:=Wz x y (@Subtype.property Prop (fun p=>wpC S k124.body _ H _=p) _) h
def s125_0 (S:Sys) (e:Fe) (H:Heap) (Q:Kx):Prop:=(⟨_,by
 simp only[b125_0,w1,sub,List.map,Option.map,↓reduceIte,Nat.reduceEqDiff]
 exact rfl⟩:Yb b125_0 S e H Q).1
theorem h125_0 (S:Sys) (e:Fe) (H:Heap) (Q:Kx):wpC S b125_0 e H Q=s125_0 S e H Q:=@Subtype.property Prop (fun p=>wpC S b125_0 e H Q=p) _
def l125_0 (S:Sys) {Q:Kx}:=@WLi b125_0 s125_0 h125_0 S Q
def s125 (S:Sys) (a0 a1 a2 a3:Value) (H:Heap) (R:Kv):Prop:=(⟨_,by
 simp only[k125,w1,sub,List.map,Option.map,↓reduceIte,Nat.reduceEqDiff]
 exact rfl⟩:Yw k125 S [a0,a1,a2,a3] H R).1
theorem w125 {S:Sys} (x:S.R 125=none) (y:S.F 125=some k125) (a0 a1 a2 a3:Value) {H:Heap} {R:Kv} (h:s125 S a0 a1 a2 a3 H R):Wf S 125 [a0,a1,a2,a3] H R:=Wz x y (@Subtype.property Prop (fun p=>wpC S k125.body _ H _=p) _) h
def s126_0 (S:Sys) (e:Fe) (H:Heap) (Q:Kx):Prop:=(⟨_,by
 simp only[b126_0,w1,sub,List.map,Option.map,↓reduceIte,Nat.reduceEqDiff]
 exact rfl⟩:Yb b126_0 S e H Q).1
theorem h126_0 (S:Sys) (e:Fe) (H:Heap) (Q:Kx):wpC S b126_0 e H Q=s126_0 S e H Q:=@Subtype.property Prop (fun p=>wpC S b126_0 e H Q=p) _
def l126_0 (S:Sys) {Q:Kx}:=@WLi b126_0 s126_0 h126_0 S Q
def s126 (S:Sys) (a0:Value) (H:Heap) (R:Kv):Prop:=(⟨_,by
 simp only[k126,w1,sub,List.map,Option.map,↓reduceIte,Nat.reduceEqDiff]
 exact rfl⟩:Yw k126 S [a0] H R).1
theorem w126 {S:Sys} (x:S.R 126=none) (y:S.F 126=some k126) (a0:Value) {H:Heap} {R:Kv} (h:s126 S a0 H R):Wf S 126 [a0] H R:=Wz x y (@Subtype.property Prop (fun p=>wpC S k126.body _ H _=p) _) h
def s127_3 (S:Sys) (e:Fe) (H:Heap) (Q:Kx):Prop:=(⟨_,by
 simp only[b127_3,w1,sub,List.map,Option.map,↓reduceIte,Nat.reduceEqDiff]
 exact rfl⟩:Yb b127_3 S e H Q).1
theorem h127_3 (S:Sys) (e:Fe) (H:Heap) (Q:Kx):wpC S b127_3 e H Q=s127_3 S e H Q:=@Subtype.property Prop (fun p=>wpC S b127_3 e H Q=p) _
def l127_3 (S:Sys) {Q:Kx}:=@WLi b127_3 s127_3 h127_3 S Q
def s127_2 (S:Sys) (e:Fe) (H:Heap) (Q:Kx):Prop:=(⟨_,by
 simp only[b127_2,w1,sub,List.map,Option.map,↓reduceIte,Nat.reduceEqDiff]
 exact rfl⟩:Yb b127_2 S e H Q).1
theorem h127_2 (S:Sys) (e:Fe) (H:Heap) (Q:Kx):wpC S b127_2 e H Q=s127_2 S e H Q:=@Subtype.property Prop (fun p=>wpC S b127_2 e H Q=p) _
def l127_2 (S:Sys) {Q:Kx}:=@WLi b127_2 s127_2 h127_2 S Q
def s127_1 (S:Sys) (e:Fe) (H:Heap) (Q:Kx):Prop:=(⟨_,by
 simp only[b127_1,w1,sub,List.map,Option.map,↓reduceIte,Nat.reduceEqDiff]
 exact rfl⟩:Yb b127_1 S e H Q).1
theorem h127_1 (S:Sys) (e:Fe) (H:Heap) (Q:Kx):wpC S b127_1 e H Q=s127_1 S e H Q:=@Subtype.property Prop (fun p=>wpC S b127_1 e H Q=p) _
def l127_1 (S:Sys) {Q:Kx}:=@WLi b127_1 s127_1 h127_1 S Q
def s127_0 (S:Sys) (e:Fe) (H:Heap) (Q:Kx):Prop:=(⟨_,by
 simp only[b127_0,w1,sub,List.map,Option.map,↓reduceIte,Nat.reduceEqDiff]
 exact rfl⟩:Yb b127_0 S e H Q).1
theorem h127_0 (S:Sys) (e:Fe) (H:Heap) (Q:Kx):wpC S b127_0 e H Q=s127_0 S e H Q:=@Subtype.property Prop (fun p=>wpC S b127_0 e H Q=p) _
def l127_0 (S:Sys) {Q:Kx}:=@WLi b127_0 s127_0 h127_0 S Q
def s127 (S:Sys) (a0 a1 a2:Value) (H:Heap) (R:Kv):Prop:=(⟨_,by
 simp only[k127,w1,sub,List.map,Option.map,↓reduceIte,Nat.reduceEqDiff]
 exact rfl⟩:Yw k127 S [a0,a1,a2] H R).1
theorem w127 {S:Sys} (x:S.R 127=none) (y:S.F 127=some k127) (a0 a1 a2:Value) {H:Heap} {R:Kv} (h:s127 S a0 a1 a2 H R):Wf S 127 [a0,a1,a2] H R:=Wz x y (@Subtype.property Prop (fun p=>wpC S k127.body _ H _=p) _) h
def s128_1 (S:Sys) (e:Fe) (H:Heap) (Q:Kx):Prop:=(⟨_,by
 simp only[b128_1,w1,sub,List.map,Option.map,↓reduceIte,Nat.reduceEqDiff]
 exact rfl⟩:Yb b128_1 S e H Q).1
theorem h128_1 (S:Sys) (e:Fe) (H:Heap) (Q:Kx):wpC S b128_1 e H Q=s128_1 S e H Q:=@Subtype.property Prop (fun p=>wpC S b128_1 e H Q=p) _
def l128_1 (S:Sys) {Q:Kx}:=@WLi b128_1 s128_1 h128_1 S Q
def s128_0 (S:Sys) (e:Fe) (H:Heap) (Q:Kx):Prop:=(⟨_,by
 simp only[b128_0,w1,sub,List.map,Option.map,↓reduceIte,Nat.reduceEqDiff]
 exact rfl⟩:Yb b128_0 S e H Q).1
theorem h128_0 (S:Sys) (e:Fe) (H:Heap) (Q:Kx):wpC S b128_0 e H Q=s128_0 S e H Q:=@Subtype.property Prop (fun p=>wpC S b128_0 e H Q=p) _
def l128_0 (S:Sys) {Q:Kx}:=@WLi b128_0 s128_0 h128_0 S Q
def s128 (S:Sys) (a0 a1:Value) (H:Heap) (R:Kv):Prop:=(⟨_,by
 simp only[k128,w1,sub,List.map,Option.map,↓reduceIte,Nat.reduceEqDiff]
 exact rfl⟩:Yw k128 S [a0,a1] H R).1
theorem w128 {S:Sys} (x:S.R 128=none) (y:S.F 128=some k128) (a0 a1:Value) {H:Heap} {R:Kv} (h:s128 S a0 a1 H R):Wf S 128 [a0,a1] H R:=Wz x y (@Subtype.property Prop (fun p=>wpC S k128.body _ H _=p) _) h
def s129 (S:Sys) (a0:Value) (H:Heap) (R:Kv):Prop:=(⟨_,by
 simp only[k129,w1,sub,List.map,Option.map,↓reduceIte,Nat.reduceEqDiff]
 exact rfl⟩:Yw k129 S [a0] H R).1
theorem w129 {S:Sys} (x:S.R 129=none) (y:S.F 129=some k129) (a0:Value) {H:Heap} {R:Kv} (h:s129 S a0 H R):Wf S 129 [a0] H R:=Wz x y (@Subtype.property Prop (fun p=>wpC S k129.body _ H _=p) _) h
def s130_0 (S:Sys) (e:Fe) (H:Heap) (Q:Kx):Prop:=(⟨_,by
 simp only[b130_0,w1,sub,List.map,Option.map,↓reduceIte,Nat.reduceEqDiff]
 exact rfl⟩:Yb b130_0 S e H Q).1
theorem h130_0 (S:Sys) (e:Fe) (H:Heap) (Q:Kx):wpC S b130_0 e H Q=s130_0 S e H Q:=@Subtype.property Prop (fun p=>wpC S b130_0 e H Q=p) _
def l130_0 (S:Sys) {Q:Kx}:=@WLi b130_0 s130_0 h130_0 S Q
def s130 (S:Sys) (a0:Value) (H:Heap) (R:Kv):Prop:=(⟨_,by
 simp only[k130,w1,sub,List.map,Option.map,↓reduceIte,Nat.reduceEqDiff]
 exact rfl⟩:Yw k130 S [a0] H R).1
theorem w130 {S:Sys} (x:S.R 130=none) (y:S.F 130=some k130) (a0:Value) {H:Heap} {R:Kv} (h:s130 S a0 H R):Wf S 130 [a0] H R:=Wz x y (@Subtype.property Prop (fun p=>wpC S k130.body _ H _=p) _) h
def s131 (S:Sys) (a0:Value) (H:Heap) (R:Kv):Prop:=(⟨_,by
 simp only[k131,w1,sub,List.map,Option.map,↓reduceIte,Nat.reduceEqDiff]
 exact rfl⟩:Yw k131 S [a0] H R).1
theorem w131 {S:Sys} (x:S.R 131=none) (y:S.F 131=some k131) (a0:Value) {H:Heap} {R:Kv} (h:s131 S a0 H R):Wf S 131 [a0] H R:=Wz x y (@Subtype.property Prop (fun p=>wpC S k131.body _ H _=p) _) h
def s132_0 (S:Sys) (e:Fe) (H:Heap) (Q:Kx):Prop:=(⟨_,by
 simp only[b132_0,w1,sub,List.map,Option.map,↓reduceIte,Nat.reduceEqDiff]
 exact rfl⟩:Yb b132_0 S e H Q).1
theorem h132_0 (S:Sys) (e:Fe) (H:Heap) (Q:Kx):wpC S b132_0 e H Q=s132_0 S e H Q:=@Subtype.property Prop (fun p=>wpC S b132_0 e H Q=p) _
def l132_0 (S:Sys) {Q:Kx}:=@WLi b132_0 s132_0 h132_0 S Q
def s132 (S:Sys) (a0:Value) (H:Heap) (R:Kv):Prop:=(⟨_,by
 simp only[k132,w1,sub,List.map,Option.map,↓reduceIte,Nat.reduceEqDiff]
 exact rfl⟩:Yw k132 S [a0] H R).1
theorem w132 {S:Sys} (x:S.R 132=none) (y:S.F 132=some k132) (a0:Value) {H:Heap} {R:Kv} (h:s132 S a0 H R):Wf S 132 [a0] H R:=Wz x y (@Subtype.property Prop (fun p=>wpC S k132.body _ H _=p) _) h
def s133_0 (S:Sys) (e:Fe) (H:Heap) (Q:Kx):Prop:=(⟨_,by
 simp only[b133_0,w1,sub,List.map,Option.map,↓reduceIte,Nat.reduceEqDiff]
 exact rfl⟩:Yb b133_0 S e H Q).1
theorem h133_0 (S:Sys) (e:Fe) (H:Heap) (Q:Kx):wpC S b133_0 e H Q=s133_0 S e H Q:=@Subtype.property Prop (fun p=>wpC S b133_0 e H Q=p) _
def l133_0 (S:Sys) {Q:Kx}:=@WLi b133_0 s133_0 h133_0 S Q
def s133 (S:Sys) (a0:Value) (H:Heap) (R:Kv):Prop:=(⟨_,by
 simp only[k133,w1,sub,List.map,Option.map,↓reduceIte,Nat.reduceEqDiff]
 exact rfl⟩:Yw k133 S [a0] H R).1
theorem w133 {S:Sys} (x:S.R 133=none) (y:S.F 133=some k133) (a0:Value) {H:Heap} {R:Kv} (h:s133 S a0 H R):Wf S 133 [a0] H R:=Wz x y (@Subtype.property Prop (fun p=>wpC S k133.body _ H _=p) _) h
def s134 (S:Sys) (a0 a1:Value) (H:Heap) (R:Kv):Prop:=(⟨_,by
 simp only[k134,w1,sub,List.map,Option.map,↓reduceIte,Nat.reduceEqDiff]
 exact rfl⟩:Yw k134 S [a0,a1] H R).1
theorem w134 {S:Sys} (x:S.R 134=none) (y:S.F 134=some k134) (a0 a1:Value) {H:Heap} {R:Kv} (h:s134 S a0 a1 H R):Wf S 134 [a0,a1] H R:=Wz x y (@Subtype.property Prop (fun p=>wpC S k134.body _ H _=p) _) h
def s135_0 (S:Sys) (e:Fe) (H:Heap) (Q:Kx):Prop:=(⟨_,by
 simp only[b135_0,w1,sub,List.map,Option.map,↓reduceIte,Nat.reduceEqDiff]
 exact rfl⟩:Yb b135_0 S e H Q).1
theorem h135_0 (S:Sys) (e:Fe) (H:Heap) (Q:Kx):wpC S b135_0 e H Q=s135_0 S e H Q:=@Subtype.property Prop (fun p=>wpC S b135_0 e H Q=p) _
def u135_0 (S:Sys) {Q:Kx} {e:Fe} {H:Heap}:=@WLu b135_0 s135_0 h135_0 S Q e H
def s135 (S:Sys) (a0 a1:Value) (H:Heap) (R:Kv):Prop:=(⟨_,by
 simp only[k135,w1,sub,List.map,Option.map,↓reduceIte,Nat.reduceEqDiff]
 exact rfl⟩:Yw k135 S [a0,a1] H R).1
theorem w135 {S:Sys} (x:S.R 135=none) (y:S.F 135=some k135) (a0 a1:Value) {H:Heap} {R:Kv} (h:s135 S a0 a1 H R):Wf S 135 [a0,a1] H R:=Wz x y (@Subtype.property Prop (fun p=>wpC S k135.body _ H _=p) _) h
def s136_0 (S:Sys) (e:Fe) (H:Heap) (Q:Kx):Prop:=(⟨_,by
 simp only[b136_0,w1,sub,List.map,Option.map,↓reduceIte,Nat.reduceEqDiff]
 exact rfl⟩:Yb b136_0 S e H Q).1
theorem h136_0 (S:Sys) (e:Fe) (H:Heap) (Q:Kx):wpC S b136_0 e H Q=s136_0 S e H Q:=@Subtype.property Prop (fun p=>wpC S b136_0 e H Q=p) _
def l136_0 (S:Sys) {Q:Kx}:=@WLi b136_0 s136_0 h136_0 S Q
def s136 (S:Sys) (a0:Value) (H:Heap) (R:Kv):Prop:=(⟨_,by
 simp only[k136,w1,sub,List.map,Option.map,↓reduceIte,Nat.reduceEqDiff]
 exact rfl⟩:Yw k136 S [a0] H R).1
theorem w136 {S:Sys} (x:S.R 136=none) (y:S.F 136=some k136) (a0:Value) {H:Heap} {R:Kv} (h:s136 S a0 H R):Wf S 136 [a0] H R:=Wz x y (@Subtype.property Prop (fun p=>wpC S k136.body _ H _=p) _) h
def s147 (S:Sys) (a0 a1:Value) (H:Heap) (R:Kv):Prop:=(⟨_,by
 simp only[k147,w1,sub,List.map,Option.map,↓reduceIte,Nat.reduceEqDiff]
 exact rfl⟩:Yw k147 S [a0,a1] H R).1
theorem w147 {S:Sys} (x:S.R 147=none) (y:S.F 147=some k147) (a0 a1:Value) {H:Heap} {R:Kv} (h:s147 S a0 a1 H R):Wf S 147 [a0,a1] H R:=Wz x y (@Subtype.property Prop (fun p=>wpC S k147.body _ H _=p) _) h
def s148 (S:Sys) (a0:Value) (H:Heap) (R:Kv):Prop:=(⟨_,by
 simp only[k148,w1,sub,List.map,Option.map,↓reduceIte,Nat.reduceEqDiff]
 exact rfl⟩:Yw k148 S [a0] H R).1
theorem w148 {S:Sys} (x:S.R 148=none) (y:S.F 148=some k148) (a0:Value) {H:Heap} {R:Kv} (h:s148 S a0 H R):Wf S 148 [a0] H R:=Wz x y (@Subtype.property Prop (fun p=>wpC S k148.body _ H _=p) _) h
def s149 (S:Sys) (a0:Value) (H:Heap) (R:Kv):Prop:=(⟨_,by
 simp only[k149,w1,sub,List.map,Option.map,↓reduceIte,Nat.reduceEqDiff]
 exact rfl⟩:Yw k149 S [a0] H R).1
theorem w149 {S:Sys} (x:S.R 149=none) (y:S.F 149=some k149) (a0:Value) {H:Heap} {R:Kv} (h:s149 S a0 H R):Wf S 149 [a0] H R:=Wz x y (@Subtype.property Prop (fun p=>wpC S k149.body _ H _=p) _) h
def s159 (S:Sys) (a0 a1:Value) (H:Heap) (R:Kv):Prop:=(⟨_,by
 simp only[k159,w1,sub,List.map,Option.map,↓reduceIte,Nat.reduceEqDiff]
 exact rfl⟩:Yw k159 S [a0,a1] H R).1
theorem w159 {S:Sys} (x:S.R 159=none) (y:S.F 159=some k159) (a0 a1:Value) {H:Heap} {R:Kv} (h:s159 S a0 a1 H R):Wf S 159 [a0,a1] H R:=Wz x y (@Subtype.property Prop (fun p=>wpC S k159.body _ H _=p) _) h
def s161 (S:Sys) (a0 a1:Value) (H:Heap) (R:Kv):Prop:=(⟨_,by
 simp only[k161,w1,sub,List.map,Option.map,↓reduceIte,Nat.reduceEqDiff]
 exact rfl⟩:Yw k161 S [a0,a1] H R).1
theorem w161 {S:Sys} (x:S.R 161=none) (y:S.F 161=some k161) (a0 a1:Value) {H:Heap} {R:Kv} (h:s161 S a0 a1 H R):Wf S 161 [a0,a1] H R:=Wz x y (@Subtype.property Prop (fun p=>wpC S k161.body _ H _=p) _) h
def s162 (S:Sys) (a0 a1:Value) (H:Heap) (R:Kv):Prop:=(⟨_,by
 simp only[k162,w1,sub,List.map,Option.map,↓reduceIte,Nat.reduceEqDiff]
 exact rfl⟩:Yw k162 S [a0,a1] H R).1
theorem w162 {S:Sys} (x:S.R 162=none) (y:S.F 162=some k162) (a0 a1:Value) {H:Heap} {R:Kv} (h:s162 S a0 a1 H R):Wf S 162 [a0,a1] H R:=Wz x y (@Subtype.property Prop (fun p=>wpC S k162.body _ H _=p) _) h
def s163 (S:Sys) (a0:Value) (H:Heap) (R:Kv):Prop:=(⟨_,by
 simp only[k163,w1,sub,List.map,Option.map,↓reduceIte,Nat.reduceEqDiff]
 exact rfl⟩:Yw k163 S [a0] H R).1
theorem w163 {S:Sys} (x:S.R 163=none) (y:S.F 163=some k163) (a0:Value) {H:Heap} {R:Kv} (h:s163 S a0 H R):Wf S 163 [a0] H R:=Wz x y (@Subtype.property Prop (fun p=>wpC S k163.body _ H _=p) _) h
def s164_0 (S:Sys) (e:Fe) (H:Heap) (Q:Kx):Prop:=(⟨_,by
 simp only[b164_0,w1,sub,List.map,Option.map,↓reduceIte,Nat.reduceEqDiff]
 exact rfl⟩:Yb b164_0 S e H Q).1
theorem h164_0 (S:Sys) (e:Fe) (H:Heap) (Q:Kx):wpC S b164_0 e H Q=s164_0 S e H Q:=@Subtype.property Prop (fun p=>wpC S b164_0 e H Q=p) _
def l164_0 (S:Sys) {Q:Kx}:=@WLi b164_0 s164_0 h164_0 S Q
def s164 (S:Sys) (a0 a1 a2:Value) (H:Heap) (R:Kv):Prop:=(⟨_,by
 simp only[k164,w1,sub,List.map,Option.map,↓reduceIte,Nat.reduceEqDiff]
 exact rfl⟩:Yw k164 S [a0,a1,a2] H R).1
theorem w164 {S:Sys} (x:S.R 164=none) (y:S.F 164=some k164) (a0 a1 a2:Value) {H:Heap} {R:Kv} (h:s164 S a0 a1 a2 H R):Wf S 164 [a0,a1,a2] H R:=Wz x y (@Subtype.property Prop (fun p=>wpC S k164.body _ H _=p) _) h
def s165 (S:Sys) (a0:Value) (H:Heap) (R:Kv):Prop:=(⟨_,by
 simp only[k165,w1,sub,List.map,Option.map,↓reduceIte,Nat.reduceEqDiff]
 exact rfl⟩:Yw k165 S [a0] H R).1
theorem w165 {S:Sys} (x:S.R 165=none) (y:S.F 165=some k165) (a0:Value) {H:Heap} {R:Kv} (h:s165 S a0 H R):Wf S 165 [a0] H R:=Wz x y (@Subtype.property Prop (fun p=>wpC S k165.body _ H _=p) _) h
def s166 (S:Sys) (a0 a1 a2:Value) (H:Heap) (R:Kv):Prop:=(⟨_,by
 simp only[k166,w1,sub,List.map,Option.map,↓reduceIte,Nat.reduceEqDiff]
 exact rfl⟩:Yw k166 S [a0,a1,a2] H R).1
theorem w166 {S:Sys} (x:S.R 166=none) (y:S.F 166=some k166) (a0 a1 a2:Value) {H:Heap} {R:Kv} (h:s166 S a0 a1 a2 H R):Wf S 166 [a0,a1,a2] H R:=Wz x y (@Subtype.property Prop (fun p=>wpC S k166.body _ H _=p) _) h
def s167 (S:Sys) (a0 a1:Value) (H:Heap) (R:Kv):Prop:=(⟨_,by
 simp only[k167,w1,sub,List.map,Option.map,↓reduceIte,Nat.reduceEqDiff]
 exact rfl⟩:Yw k167 S [a0,a1] H R).1
theorem w167 {S:Sys} (x:S.R 167=none) (y:S.F 167=some k167) (a0 a1:Value) {H:Heap} {R:Kv} (h:s167 S a0 a1 H R):Wf S 167 [a0,a1] H R:=Wz x y (@Subtype.property Prop (fun p=>wpC S k167.body _ H _=p) _) h
def s168_0 (S:Sys) (e:Fe) (H:Heap) (Q:Kx):Prop:=(⟨_,by
 simp only[b168_0,w1,sub,List.map,Option.map,↓reduceIte,Nat.reduceEqDiff]
 exact rfl⟩:Yb b168_0 S e H Q).1
theorem h168_0 (S:Sys) (e:Fe) (H:Heap) (Q:Kx):wpC S b168_0 e H Q=s168_0 S e H Q:=@Subtype.property Prop (fun p=>wpC S b168_0 e H Q=p) _
def l168_0 (S:Sys) {Q:Kx}:=@WLi b168_0 s168_0 h168_0 S Q
def s168 (S:Sys) (a0:Value) (H:Heap) (R:Kv):Prop:=(⟨_,by
 simp only[k168,w1,sub,List.map,Option.map,↓reduceIte,Nat.reduceEqDiff]
 exact rfl⟩:Yw k168 S [a0] H R).1
theorem w168 {S:Sys} (x:S.R 168=none) (y:S.F 168=some k168) (a0:Value) {H:Heap} {R:Kv} (h:s168 S a0 H R):Wf S 168 [a0] H R:=Wz x y (@Subtype.property Prop (fun p=>wpC S k168.body _ H _=p) _) h
def s169_0 (S:Sys) (e:Fe) (H:Heap) (Q:Kx):Prop:=(⟨_,by
 simp only[b169_0,w1,sub,List.map,Option.map,↓reduceIte,Nat.reduceEqDiff]
 exact rfl⟩:Yb b169_0 S e H Q).1
theorem h169_0 (S:Sys) (e:Fe) (H:Heap) (Q:Kx):wpC S b169_0 e H Q=s169_0 S e H Q:=@Subtype.property Prop (fun p=>wpC S b169_0 e H Q=p) _
def l169_0 (S:Sys) {Q:Kx}:=@WLi b169_0 s169_0 h169_0 S Q
def s169 (S:Sys) (a0:Value) (H:Heap) (R:Kv):Prop:=(⟨_,by
 simp only[k169,w1,sub,List.map,Option.map,↓reduceIte,Nat.reduceEqDiff]
 exact rfl⟩:Yw k169 S [a0] H R).1
theorem w169 {S:Sys} (x:S.R 169=none) (y:S.F 169=some k169) (a0:Value) {H:Heap} {R:Kv} (h:s169 S a0 H R):Wf S 169 [a0] H R:=Wz x y (@Subtype.property Prop (fun p=>wpC S k169.body _ H _=p) _) h
def s170_0 (S:Sys) (e:Fe) (H:Heap) (Q:Kx):Prop:=(⟨_,by
 simp only[b170_0,w1,sub,List.map,Option.map,↓reduceIte,Nat.reduceEqDiff]
 exact rfl⟩:Yb b170_0 S e H Q).1
theorem h170_0 (S:Sys) (e:Fe) (H:Heap) (Q:Kx):wpC S b170_0 e H Q=s170_0 S e H Q:=@Subtype.property Prop (fun p=>wpC S b170_0 e H Q=p) _
def l170_0 (S:Sys) {Q:Kx}:=@WLi b170_0 s170_0 h170_0 S Q
def s170 (S:Sys) (a0 a1:Value) (H:Heap) (R:Kv):Prop:=(⟨_,by
 simp only[k170,w1,sub,List.map,Option.map,↓reduceIte,Nat.reduceEqDiff]
 exact rfl⟩:Yw k170 S [a0,a1] H R).1
theorem w170 {S:Sys} (x:S.R 170=none) (y:S.F 170=some k170) (a0 a1:Value) {H:Heap} {R:Kv} (h:s170 S a0 a1 H R):Wf S 170 [a0,a1] H R:=Wz x y (@Subtype.property Prop (fun p=>wpC S k170.body _ H _=p) _) h
def s171_0 (S:Sys) (e:Fe) (H:Heap) (Q:Kx):Prop:=(⟨_,by
 simp only[b171_0,w1,sub,List.map,Option.map,↓reduceIte,Nat.reduceEqDiff]
 exact rfl⟩:Yb b171_0 S e H Q).1
theorem h171_0 (S:Sys) (e:Fe) (H:Heap) (Q:Kx):wpC S b171_0 e H Q=s171_0 S e H Q:=@Subtype.property Prop (fun p=>wpC S b171_0 e H Q=p) _
def l171_0 (S:Sys) {Q:Kx}:=@WLi b171_0 s171_0 h171_0 S Q
def s171 (S:Sys) (a0 a1:Value) (H:Heap) (R:Kv):Prop:=(⟨_,by
 simp only[k171,w1,sub,List.map,Option.map,↓reduceIte,Nat.reduceEqDiff]
 exact rfl⟩:Yw k171 S [a0,a1] H R).1
theorem w171 {S:Sys} (x:S.R 171=none) (y:S.F 171=some k171) (a0 a1:Value) {H:Heap} {R:Kv} (h:s171 S a0 a1 H R):Wf S 171 [a0,a1] H R:=Wz x y (@Subtype.property Prop (fun p=>wpC S k171.body _ H _=p) _) h
def s172 (S:Sys) (a0 a1:Value) (H:Heap) (R:Kv):Prop:=(⟨_,by
 simp only[k172,w1,sub,List.map,Option.map,↓reduceIte,Nat.reduceEqDiff]
 exact rfl⟩:Yw k172 S [a0,a1] H R).1
theorem w172 {S:Sys} (x:S.R 172=none) (y:S.F 172=some k172) (a0 a1:Value) {H:Heap} {R:Kv} (h:s172 S a0 a1 H R):Wf S 172 [a0,a1] H R:=Wz x y (@Subtype.property Prop (fun p=>wpC S k172.body _ H _=p) _) h
def s173_0 (S:Sys) (e:Fe) (H:Heap) (Q:Kx):Prop:=(⟨_,by
 simp only[b173_0,w1,sub,List.map,Option.map,↓reduceIte,Nat.reduceEqDiff]
 exact rfl⟩:Yb b173_0 S e H Q).1
theorem h173_0 (S:Sys) (e:Fe) (H:Heap) (Q:Kx):wpC S b173_0 e H Q=s173_0 S e H Q:=@Subtype.property Prop (fun p=>wpC S b173_0 e H Q=p) _
def l173_0 (S:Sys) {Q:Kx}:=@WLi b173_0 s173_0 h173_0 S Q
def s173 (S:Sys) (a0 a1:Value) (H:Heap) (R:Kv):Prop:=(⟨_,by
 simp only[k173,w1,sub,List.map,Option.map,↓reduceIte,Nat.reduceEqDiff]
 exact rfl⟩:Yw k173 S [a0,a1] H R).1
theorem w173 {S:Sys} (x:S.R 173=none) (y:S.F 173=some k173) (a0 a1:Value) {H:Heap} {R:Kv} (h:s173 S a0 a1 H R):Wf S 173 [a0,a1] H R:=Wz x y (@Subtype.property Prop (fun p=>wpC S k173.body _ H _=p) _) h
def s174_0 (S:Sys) (e:Fe) (H:Heap) (Q:Kx):Prop:=(⟨_,by
 simp only[b174_0,w1,sub,List.map,Option.map,↓reduceIte,Nat.reduceEqDiff]
 exact rfl⟩:Yb b174_0 S e H Q).1
theorem h174_0 (S:Sys) (e:Fe) (H:Heap) (Q:Kx):wpC S b174_0 e H Q=s174_0 S e H Q:=@Subtype.property Prop (fun p=>wpC S b174_0 e H Q=p) _
def u174_0 (S:Sys) {Q:Kx} {e:Fe} {H:Heap}:=@WLu b174_0 s174_0 h174_0 S Q e H
def s174 (S:Sys) (a0 a1:Value) (H:Heap) (R:Kv):Prop:=(⟨_,by
 simp only[k174,w1,sub,List.map,Option.map,↓reduceIte,Nat.reduceEqDiff]
 exact rfl⟩:Yw k174 S [a0,a1] H R).1
theorem w174 {S:Sys} (x:S.R 174=none) (y:S.F 174=some k174) (a0 a1:Value) {H:Heap} {R:Kv} (h:s174 S a0 a1 H R):Wf S 174 [a0,a1] H R:=Wz x y (@Subtype.property Prop (fun p=>wpC S k174.body _ H _=p) _) h
def s180 (S:Sys) (a0:Value) (H:Heap) (R:Kv):Prop:=(⟨_,by
 simp only[k180,w1,sub,List.map,Option.map,↓reduceIte,Nat.reduceEqDiff]
 exact rfl⟩:Yw k180 S [a0] H R).1
theorem w180 {S:Sys} (x:S.R 180=none) (y:S.F 180=some k180) (a0:Value) {H:Heap} {R:Kv} (h:s180 S a0 H R):Wf S 180 [a0] H R:=Wz x y (@Subtype.property Prop (fun p=>wpC S k180.body _ H _=p) _) h
def s181_0 (S:Sys) (e:Fe) (H:Heap) (Q:Kx):Prop:=(⟨_,by
 simp only[b181_0,w1,sub,List.map,Option.map,↓reduceIte,Nat.reduceEqDiff]
 exact rfl⟩:Yb b181_0 S e H Q).1
theorem h181_0 (S:Sys) (e:Fe) (H:Heap) (Q:Kx):wpC S b181_0 e H Q=s181_0 S e H Q:=@Subtype.property Prop (fun p=>wpC S b181_0 e H Q=p) _
def u181_0 (S:Sys) {Q:Kx} {e:Fe} {H:Heap}:=@WLu b181_0 s181_0 h181_0 S Q e H
def s181 (S:Sys) (a0 a1:Value) (H:Heap) (R:Kv):Prop:=(⟨_,by
 simp only[k181,w1,sub,List.map,Option.map,↓reduceIte,Nat.reduceEqDiff]
 exact rfl⟩:Yw k181 S [a0,a1] H R).1
theorem w181 {S:Sys} (x:S.R 181=none) (y:S.F 181=some k181) (a0 a1:Value) {H:Heap} {R:Kv} (h:s181 S a0 a1 H R):Wf S 181 [a0,a1] H R:=Wz x y (@Subtype.property Prop (fun p=>wpC S k181.body _ H _=p) _) h
def s182 (S:Sys) (a0 a1 a2:Value) (H:Heap) (R:Kv):Prop:=(⟨_,by
 simp only[k182,w1,sub,List.map,Option.map,↓reduceIte,Nat.reduceEqDiff]
 exact rfl⟩:Yw k182 S [a0,a1,a2] H R).1
theorem w182 {S:Sys} (x:S.R 182=none) (y:S.F 182=some k182) (a0 a1 a2:Value) {H:Heap} {R:Kv} (h:s182 S a0 a1 a2 H R):Wf S 182 [a0,a1,a2] H R:=Wz x y (@Subtype.property Prop (fun p=>wpC S k182.body _ H _=p) _) h
def s183 (S:Sys) (a0:Value) (H:Heap) (R:Kv):Prop:=(⟨_,by
 simp only[k183,w1,sub,List.map,Option.map,↓reduceIte,Nat.reduceEqDiff]
 exact rfl⟩:Yw k183 S [a0] H R).1
theorem w183 {S:Sys} (x:S.R 183=none) (y:S.F 183=some k183) (a0:Value) {H:Heap} {R:Kv} (h:s183 S a0 H R):Wf S 183 [a0] H R:=Wz x y (@Subtype.property Prop (fun p=>wpC S k183.body _ H _=p) _) h
def s187_1 (S:Sys) (e:Fe) (H:Heap) (Q:Kx):Prop:=(⟨_,by
 simp only[b187_1,w1,sub,List.map,Option.map,↓reduceIte,Nat.reduceEqDiff]
 exact rfl⟩:Yb b187_1 S e H Q).1
theorem h187_1 (S:Sys) (e:Fe) (H:Heap) (Q:Kx):wpC S b187_1 e H Q=s187_1 S e H Q:=@Subtype.property Prop (fun p=>wpC S b187_1 e H Q=p) _
def l187_1 (S:Sys) {Q:Kx}:=@WLi b187_1 s187_1 h187_1 S Q
def s187_0 (S:Sys) (e:Fe) (H:Heap) (Q:Kx):Prop:=(⟨_,by
 simp only[b187_0,w1,sub,List.map,Option.map,↓reduceIte,Nat.reduceEqDiff]
 exact rfl⟩:Yb b187_0 S e H Q).1
theorem h187_0 (S:Sys) (e:Fe) (H:Heap) (Q:Kx):wpC S b187_0 e H Q=s187_0 S e H Q:=@Subtype.property Prop (fun p=>wpC S b187_0 e H Q=p) _
def l187_0 (S:Sys) {Q:Kx}:=@WLi b187_0 s187_0 h187_0 S Q
def s187 (S:Sys) (a0 a1:Value) (H:Heap) (R:Kv):Prop:=(⟨_,by
 simp only[k187,w1,sub,List.map,Option.map,↓reduceIte,Nat.reduceEqDiff]
 exact rfl⟩:Yw k187 S [a0,a1] H R).1
theorem w187 {S:Sys} (x:S.R 187=none) (y:S.F 187=some k187) (a0 a1:Value) {H:Heap} {R:Kv} (h:s187 S a0 a1 H R):Wf S 187 [a0,a1] H R:=Wz x y (@Subtype.property Prop (fun p=>wpC S k187.body _ H _=p) _) h
def s194_0 (S:Sys) (e:Fe) (H:Heap) (Q:Kx):Prop:=(⟨_,by
 simp only[b194_0,w1,sub,List.map,Option.map,↓reduceIte,Nat.reduceEqDiff]
 exact rfl⟩:Yb b194_0 S e H Q).1
theorem h194_0 (S:Sys) (e:Fe) (H:Heap) (Q:Kx):wpC S b194_0 e H Q=s194_0 S e H Q:=@Subtype.property Prop (fun p=>wpC S b194_0 e H Q=p) _
def l194_0 (S:Sys) {Q:Kx}:=@WLi b194_0 s194_0 h194_0 S Q
def s194 (S:Sys) (a0:Value) (H:Heap) (R:Kv):Prop:=(⟨_,by
 simp only[k194,w1,sub,List.map,Option.map,↓reduceIte,Nat.reduceEqDiff]
 exact rfl⟩:Yw k194 S [a0] H R).1
theorem w194 {S:Sys} (x:S.R 194=none) (y:S.F 194=some k194) (a0:Value) {H:Heap} {R:Kv} (h:s194 S a0 H R):Wf S 194 [a0] H R:=Wz x y (@Subtype.property Prop (fun p=>wpC S k194.body _ H _=p) _) h
def s198_0 (S:Sys) (e:Fe) (H:Heap) (Q:Kx):Prop:=(⟨_,by
 simp only[b198_0,w1,sub,List.map,Option.map,↓reduceIte,Nat.reduceEqDiff]
 exact rfl⟩:Yb b198_0 S e H Q).1
theorem h198_0 (S:Sys) (e:Fe) (H:Heap) (Q:Kx):wpC S b198_0 e H Q=s198_0 S e H Q:=@Subtype.property Prop (fun p=>wpC S b198_0 e H Q=p) _
def l198_0 (S:Sys) {Q:Kx}:=@WLi b198_0 s198_0 h198_0 S Q
def s198 (S:Sys) (a0:Value) (H:Heap) (R:Kv):Prop:=(⟨_,by
 simp only[k198,w1,sub,List.map,Option.map,↓reduceIte,Nat.reduceEqDiff]
 exact rfl⟩:Yw k198 S [a0] H R).1
theorem w198 {S:Sys} (x:S.R 198=none) (y:S.F 198=some k198) (a0:Value) {H:Heap} {R:Kv} (h:s198 S a0 H R):Wf S 198 [a0] H R:=Wz x y (@Subtype.property Prop (fun p=>wpC S k198.body _ H _=p) _) h
def s199_0 (S:Sys) (e:Fe) (H:Heap) (Q:Kx):Prop:=(⟨_,by
 simp only[b199_0,w1,sub,List.map,Option.map,↓reduceIte,Nat.reduceEqDiff]
 exact rfl⟩:Yb b199_0 S e H Q).1
theorem h199_0 (S:Sys) (e:Fe) (H:Heap) (Q:Kx):wpC S b199_0 e H Q=s199_0 S e H Q:=@Subtype.property Prop (fun p=>wpC S b199_0 e H Q=p) _
def l199_0 (S:Sys) {Q:Kx}:=@WLi b199_0 s199_0 h199_0 S Q
def s199 (S:Sys) (a0 a1 a2:Value) (H:Heap) (R:Kv):Prop:=(⟨_,by
 simp only[k199,w1,sub,List.map,Option.map,↓reduceIte,Nat.reduceEqDiff]
 exact rfl⟩:Yw k199 S [a0,a1,a2] H R).1
theorem w199 {S:Sys} (x:S.R 199=none) (y:S.F 199=some k199) (a0 a1 a2:Value) {H:Heap} {R:Kv} (h:s199 S a0 a1 a2 H R):Wf S 199 [a0,a1,a2] H R:=Wz x y (@Subtype.property Prop (fun p=>wpC S k199.body _ H _=p) _) h
def s200_0 (S:Sys) (e:Fe) (H:Heap) (Q:Kx):Prop:=(⟨_,by
 simp only[b200_0,w1,sub,List.map,Option.map,↓reduceIte,Nat.reduceEqDiff]
 exact rfl⟩:Yb b200_0 S e H Q).1
theorem h200_0 (S:Sys) (e:Fe) (H:Heap) (Q:Kx):wpC S b200_0 e H Q=s200_0 S e H Q:=@Subtype.property Prop (fun p=>wpC S b200_0 e H Q=p) _
def l200_0 (S:Sys) {Q:Kx}:=@WLi b200_0 s200_0 h200_0 S Q
def s200 (S:Sys) (a0 a1:Value) (H:Heap) (R:Kv):Prop:=(⟨_,by
 simp only[k200,w1,sub,List.map,Option.map,↓reduceIte,Nat.reduceEqDiff]
 exact rfl⟩:Yw k200 S [a0,a1] H R).1
theorem w200 {S:Sys} (x:S.R 200=none) (y:S.F 200=some k200) (a0 a1:Value) {H:Heap} {R:Kv} (h:s200 S a0 a1 H R):Wf S 200 [a0,a1] H R:=Wz x y (@Subtype.property Prop (fun p=>wpC S k200.body _ H _=p) _) h
def s201 (S:Sys) (a0 a1:Value) (H:Heap) (R:Kv):Prop:=(⟨_,by
 simp only[k201,w1,sub,List.map,Option.map,↓reduceIte,Nat.reduceEqDiff]
 exact rfl⟩:Yw k201 S [a0,a1] H R).1
theorem w201 {S:Sys} (x:S.R 201=none) (y:S.F 201=some k201) (a0 a1:Value) {H:Heap} {R:Kv} (h:s201 S a0 a1 H R):Wf S 201 [a0,a1] H R:=Wz x y (@Subtype.property Prop (fun p=>wpC S k201.body _ H _=p) _) h
def s202 (S:Sys) (a0 a1:Value) (H:Heap) (R:Kv):Prop:=(⟨_,by
 simp only[k202,w1,sub,List.map,Option.map,↓reduceIte,Nat.reduceEqDiff]
 exact rfl⟩:Yw k202 S [a0,a1] H R).1
theorem w202 {S:Sys} (x:S.R 202=none) (y:S.F 202=some k202) (a0 a1:Value) {H:Heap} {R:Kv} (h:s202 S a0 a1 H R):Wf S 202 [a0,a1] H R:=Wz x y (@Subtype.property Prop (fun p=>wpC S k202.body _ H _=p) _) h
def s203 (S:Sys) (a0:Value) (H:Heap) (R:Kv):Prop:=(⟨_,by
 simp only[k203,w1,sub,List.map,Option.map,↓reduceIte,Nat.reduceEqDiff]
 exact rfl⟩:Yw k203 S [a0] H R).1
theorem w203 {S:Sys} (x:S.R 203=none) (y:S.F 203=some k203) (a0:Value) {H:Heap} {R:Kv} (h:s203 S a0 H R):Wf S 203 [a0] H R:=Wz x y (@Subtype.property Prop (fun p=>wpC S k203.body _ H _=p) _) h
def s204 (S:Sys) (a0 a1:Value) (H:Heap) (R:Kv):Prop:=(⟨_,by
 simp only[k204,w1,sub,List.map,Option.map,↓reduceIte,Nat.reduceEqDiff]
 exact rfl⟩:Yw k204 S [a0,a1] H R).1
theorem w204 {S:Sys} (x:S.R 204=none) (y:S.F 204=some k204) (a0 a1:Value) {H:Heap} {R:Kv} (h:s204 S a0 a1 H R):Wf S 204 [a0,a1] H R:=Wz x y (@Subtype.property Prop (fun p=>wpC S k204.body _ H _=p) _) h
def s205 (S:Sys) (a0 a1:Value) (H:Heap) (R:Kv):Prop:=(⟨_,by
 simp only[k205,w1,sub,List.map,Option.map,↓reduceIte,Nat.reduceEqDiff]
 exact rfl⟩:Yw k205 S [a0,a1] H R).1
theorem w205 {S:Sys} (x:S.R 205=none) (y:S.F 205=some k205) (a0 a1:Value) {H:Heap} {R:Kv} (h:s205 S a0 a1 H R):Wf S 205 [a0,a1] H R:=Wz x y (@Subtype.property Prop (fun p=>wpC S k205.body _ H _=p) _) h
def s206 (S:Sys) (a0:Value) (H:Heap) (R:Kv):Prop:=(⟨_,by
 simp only[k206,w1,sub,List.map,Option.map,↓reduceIte,Nat.reduceEqDiff]
 exact rfl⟩:Yw k206 S [a0] H R).1
theorem w206 {S:Sys} (x:S.R 206=none) (y:S.F 206=some k206) (a0:Value) {H:Heap} {R:Kv} (h:s206 S a0 H R):Wf S 206 [a0] H R:=Wz x y (@Subtype.property Prop (fun p=>wpC S k206.body _ H _=p) _) h
def s207_0 (S:Sys) (e:Fe) (H:Heap) (Q:Kx):Prop:=(⟨_,by
 simp only[b207_0,w1,sub,List.map,Option.map,↓reduceIte,Nat.reduceEqDiff]
 exact rfl⟩:Yb b207_0 S e H Q).1
theorem h207_0 (S:Sys) (e:Fe) (H:Heap) (Q:Kx):wpC S b207_0 e H Q=s207_0 S e H Q:=@Subtype.property Prop (fun p=>wpC S b207_0 e H Q=p) _
def l207_0 (S:Sys) {Q:Kx}:=@WLi b207_0 s207_0 h207_0 S Q
def s207 (S:Sys) (a0 a1:Value) (H:Heap) (R:Kv):Prop:=(⟨_,by
 simp only[k207,w1,sub,List.map,Option.map,↓reduceIte,Nat.reduceEqDiff]
 exact rfl⟩:Yw k207 S [a0,a1] H R).1
theorem w207 {S:Sys} (x:S.R 207=none) (y:S.F 207=some k207) (a0 a1:Value) {H:Heap} {R:Kv} (h:s207 S a0 a1 H R):Wf S 207 [a0,a1] H R:=Wz x y (@Subtype.property Prop (fun p=>wpC S k207.body _ H _=p) _) h
def s208_0 (S:Sys) (e:Fe) (H:Heap) (Q:Kx):Prop:=(⟨_,by
 simp only[b208_0,w1,sub,List.map,Option.map,↓reduceIte,Nat.reduceEqDiff]
 exact rfl⟩:Yb b208_0 S e H Q).1
theorem h208_0 (S:Sys) (e:Fe) (H:Heap) (Q:Kx):wpC S b208_0 e H Q=s208_0 S e H Q:=@Subtype.property Prop (fun p=>wpC S b208_0 e H Q=p) _
def l208_0 (S:Sys) {Q:Kx}:=@WLi b208_0 s208_0 h208_0 S Q
def s208 (S:Sys) (a0 a1 a2:Value) (H:Heap) (R:Kv):Prop:=(⟨_,by
 simp only[k208,w1,sub,List.map,Option.map,↓reduceIte,Nat.reduceEqDiff]
 exact rfl⟩:Yw k208 S [a0,a1,a2] H R).1
theorem w208 {S:Sys} (x:S.R 208=none) (y:S.F 208=some k208) (a0 a1 a2:Value) {H:Heap} {R:Kv} (h:s208 S a0 a1 a2 H R):Wf S 208 [a0,a1,a2] H R:=Wz x y (@Subtype.property Prop (fun p=>wpC S k208.body _ H _=p) _) h
def s209_0 (S:Sys) (e:Fe) (H:Heap) (Q:Kx):Prop:=(⟨_,by
 simp only[b209_0,w1,sub,List.map,Option.map,↓reduceIte,Nat.reduceEqDiff]
 exact rfl⟩:Yb b209_0 S e H Q).1
theorem h209_0 (S:Sys) (e:Fe) (H:Heap) (Q:Kx):wpC S b209_0 e H Q=s209_0 S e H Q:=@Subtype.property Prop (fun p=>wpC S b209_0 e H Q=p) _
def l209_0 (S:Sys) {Q:Kx}:=@WLi b209_0 s209_0 h209_0 S Q
def s209 (S:Sys) (a0:Value) (H:Heap) (R:Kv):Prop:=(⟨_,by
 simp only[k209,w1,sub,List.map,Option.map,↓reduceIte,Nat.reduceEqDiff]
 exact rfl⟩:Yw k209 S [a0] H R).1
theorem w209 {S:Sys} (x:S.R 209=none) (y:S.F 209=some k209) (a0:Value) {H:Heap} {R:Kv} (h:s209 S a0 H R):Wf S 209 [a0] H R:=Wz x y (@Subtype.property Prop (fun p=>wpC S k209.body _ H _=p) _) h
def s210_0 (S:Sys) (e:Fe) (H:Heap) (Q:Kx):Prop:=(⟨_,by
 simp only[b210_0,w1,sub,List.map,Option.map,↓reduceIte,Nat.reduceEqDiff]
 exact rfl⟩:Yb b210_0 S e H Q).1
theorem h210_0 (S:Sys) (e:Fe) (H:Heap) (Q:Kx):wpC S b210_0 e H Q=s210_0 S e H Q:=@Subtype.property Prop (fun p=>wpC S b210_0 e H Q=p) _
def l210_0 (S:Sys) {Q:Kx}:=@WLi b210_0 s210_0 h210_0 S Q
def s210 (S:Sys) (a0:Value) (H:Heap) (R:Kv):Prop:=(⟨_,by
 simp only[k210,w1,sub,List.map,Option.map,↓reduceIte,Nat.reduceEqDiff]
 exact rfl⟩:Yw k210 S [a0] H R).1
theorem w210 {S:Sys} (x:S.R 210=none) (y:S.F 210=some k210) (a0:Value) {H:Heap} {R:Kv} (h:s210 S a0 H R):Wf S 210 [a0] H R:=Wz x y (@Subtype.property Prop (fun p=>wpC S k210.body _ H _=p) _) h
def s211_1 (S:Sys) (e:Fe) (H:Heap) (Q:Kx):Prop:=(⟨_,by
 simp only[b211_1,w1,sub,List.map,Option.map,↓reduceIte,Nat.reduceEqDiff]
 exact rfl⟩:Yb b211_1 S e H Q).1
theorem h211_1 (S:Sys) (e:Fe) (H:Heap) (Q:Kx):wpC S b211_1 e H Q=s211_1 S e H Q:=@Subtype.property Prop (fun p=>wpC S b211_1 e H Q=p) _
def l211_1 (S:Sys) {Q:Kx}:=@WLi b211_1 s211_1 h211_1 S Q
def s211_0 (S:Sys) (e:Fe) (H:Heap) (Q:Kx):Prop:=(⟨_,by
 simp only[b211_0,w1,sub,List.map,Option.map,↓reduceIte,Nat.reduceEqDiff]
 exact rfl⟩:Yb b211_0 S e H Q).1
theorem h211_0 (S:Sys) (e:Fe) (H:Heap) (Q:Kx):wpC S b211_0 e H Q=s211_0 S e H Q:=@Subtype.property Prop (fun p=>wpC S b211_0 e H Q=p) _
def l211_0 (S:Sys) {Q:Kx}:=@WLi b211_0 s211_0 h211_0 S Q
def s211 (S:Sys) (a0:Value) (H:Heap) (R:Kv):Prop:=(⟨_,by
 simp only[k211,w1,sub,List.map,Option.map,↓reduceIte,Nat.reduceEqDiff]
 exact rfl⟩:Yw k211 S [a0] H R).1
theorem w211 {S:Sys} (x:S.R 211=none) (y:S.F 211=some k211) (a0:Value) {H:Heap} {R:Kv} (h:s211 S a0 H R):Wf S 211 [a0] H R:=Wz x y (@Subtype.property Prop (fun p=>wpC S k211.body _ H _=p) _) h
def s212_0 (S:Sys) (e:Fe) (H:Heap) (Q:Kx):Prop:=(⟨_,by
 simp only[b212_0,w1,sub,List.map,Option.map,↓reduceIte,Nat.reduceEqDiff]
 exact rfl⟩:Yb b212_0 S e H Q).1
theorem h212_0 (S:Sys) (e:Fe) (H:Heap) (Q:Kx):wpC S b212_0 e H Q=s212_0 S e H Q:=@Subtype.property Prop (fun p=>wpC S b212_0 e H Q=p) _
def l212_0 (S:Sys) {Q:Kx}:=@WLi b212_0 s212_0 h212_0 S Q
def s212 (S:Sys) (a0:Value) (H:Heap) (R:Kv):Prop:=(⟨_,by
 simp only[k212,w1,sub,List.map,Option.map,↓reduceIte,Nat.reduceEqDiff]
 exact rfl⟩:Yw k212 S [a0] H R).1
theorem w212 {S:Sys} (x:S.R 212=none) (y:S.F 212=some k212) (a0:Value) {H:Heap} {R:Kv} (h:s212 S a0 H R):Wf S 212 [a0] H R:=Wz x y (@Subtype.property Prop (fun p=>wpC S k212.body _ H _=p) _) h
def s213_0 (S:Sys) (e:Fe) (H:Heap) (Q:Kx):Prop:=(⟨_,by
 simp only[b213_0,w1,sub,List.map,Option.map,↓reduceIte,Nat.reduceEqDiff]
 exact rfl⟩:Yb b213_0 S e H Q).1
theorem h213_0 (S:Sys) (e:Fe) (H:Heap) (Q:Kx):wpC S b213_0 e H Q=s213_0 S e H Q:=@Subtype.property Prop (fun p=>wpC S b213_0 e H Q=p) _
def l213_0 (S:Sys) {Q:Kx}:=@WLi b213_0 s213_0 h213_0 S Q
def s213 (S:Sys) (a0 a1:Value) (H:Heap) (R:Kv):Prop:=(⟨_,by
 simp only[k213,w1,sub,List.map,Option.map,↓reduceIte,Nat.reduceEqDiff]
 exact rfl⟩:Yw k213 S [a0,a1] H R).1
theorem w213 {S:Sys} (x:S.R 213=none) (y:S.F 213=some k213) (a0 a1:Value) {H:Heap} {R:Kv} (h:s213 S a0 a1 H R):Wf S 213 [a0,a1] H R:=Wz x y (@Subtype.property Prop (fun p=>wpC S k213.body _ H _=p) _) h
def s214_0 (S:Sys) (e:Fe) (H:Heap) (Q:Kx):Prop:=(⟨_,by
 simp only[b214_0,w1,sub,List.map,Option.map,↓reduceIte,Nat.reduceEqDiff]
 exact rfl⟩:Yb b214_0 S e H Q).1
theorem h214_0 (S:Sys) (e:Fe) (H:Heap) (Q:Kx):wpC S b214_0 e H Q=s214_0 S e H Q:=@Subtype.property Prop (fun p=>wpC S b214_0 e H Q=p) _
def l214_0 (S:Sys) {Q:Kx}:=@WLi b214_0 s214_0 h214_0 S Q
def s214 (S:Sys) (a0 a1 a2 a3:Value) (H:Heap) (R:Kv):Prop:=(⟨_,by
 simp only[k214,w1,sub,List.map,Option.map,↓reduceIte,Nat.reduceEqDiff]
 exact rfl⟩:Yw k214 S [a0,a1,a2,a3] H R).1
theorem w214 {S:Sys} (x:S.R 214=none) (y:S.F 214=some k214) (a0 a1 a2 a3:Value) {H:Heap} {R:Kv} (h:s214 S a0 a1 a2 a3 H R):Wf S 214 [a0,a1,a2,a3] H R:=Wz x y (@Subtype.property Prop (fun p=>wpC S k214.body _ H _=p) _) h
def s215_3 (S:Sys) (e:Fe) (H:Heap) (Q:Kx):Prop:=(⟨_,by
 simp only[b215_3,w1,sub,List.map,Option.map,↓reduceIte,Nat.reduceEqDiff]
 exact rfl⟩:Yb b215_3 S e H Q).1
theorem h215_3 (S:Sys) (e:Fe) (H:Heap) (Q:Kx):wpC S b215_3 e H Q=s215_3 S e H Q:=@Subtype.property Prop (fun p=>wpC S b215_3 e H Q=p) _
def l215_3 (S:Sys) {Q:Kx}:=@WLi b215_3 s215_3 h215_3 S Q
def s215_2 (S:Sys) (e:Fe) (H:Heap) (Q:Kx):Prop:=(⟨_,by
 simp only[b215_2,w1,sub,List.map,Option.map,↓reduceIte,Nat.reduceEqDiff]
 exact rfl⟩:Yb b215_2 S e H Q).1
theorem h215_2 (S:Sys) (e:Fe) (H:Heap) (Q:Kx):wpC S b215_2 e H Q=s215_2 S e H Q:=@Subtype.property Prop (fun p=>wpC S b215_2 e H Q=p) _
def l215_2 (S:Sys) {Q:Kx}:=@WLi b215_2 s215_2 h215_2 S Q
def s215_1 (S:Sys) (e:Fe) (H:Heap) (Q:Kx):Prop:=(⟨_,by
 simp only[b215_1,w1,sub,List.map,Option.map,↓reduceIte,Nat.reduceEqDiff]
 exact rfl⟩:Yb b215_1 S e H Q).1
theorem h215_1 (S:Sys) (e:Fe) (H:Heap) (Q:Kx):wpC S b215_1 e H Q=s215_1 S e H Q:=@Subtype.property Prop (fun p=>wpC S b215_1 e H Q=p) _
def l215_1 (S:Sys) {Q:Kx}:=@WLi b215_1 s215_1 h215_1 S Q
def s215_0 (S:Sys) (e:Fe) (H:Heap) (Q:Kx):Prop:=(⟨_,by
 simp only[b215_0,w1,sub,List.map,Option.map,↓reduceIte,Nat.reduceEqDiff]
 exact rfl⟩:Yb b215_0 S e H Q).1
theorem h215_0 (S:Sys) (e:Fe) (H:Heap) (Q:Kx):wpC S b215_0 e H Q=s215_0 S e H Q:=@Subtype.property Prop (fun p=>wpC S b215_0 e H Q=p) _
def l215_0 (S:Sys) {Q:Kx}:=@WLi b215_0 s215_0 h215_0 S Q
def s215 (S:Sys) (a0 a1:Value) (H:Heap) (R:Kv):Prop:=(⟨_,by
 simp only[k215,w1,sub,List.map,Option.map,↓reduceIte,Nat.reduceEqDiff]
 exact rfl⟩:Yw k215 S [a0,a1] H R).1
theorem w215 {S:Sys} (x:S.R 215=none) (y:S.F 215=some k215) (a0 a1:Value) {H:Heap} {R:Kv} (h:s215 S a0 a1 H R):Wf S 215 [a0,a1] H R:=Wz x y (@Subtype.property Prop (fun p=>wpC S k215.body _ H _=p) _) h
def s218 (S:Sys) (a0:Value) (H:Heap) (R:Kv):Prop:=(⟨_,by
 simp only[k218,w1,sub,List.map,Option.map,↓reduceIte,Nat.reduceEqDiff]
 exact rfl⟩:Yw k218 S [a0] H R).1
theorem w218 {S:Sys} (x:S.R 218=none) (y:S.F 218=some k218) (a0:Value) {H:Heap} {R:Kv} (h:s218 S a0 H R):Wf S 218 [a0] H R:=Wz x y (@Subtype.property Prop (fun p=>wpC S k218.body _ H _=p) _) h
def s221_0 (S:Sys) (e:Fe) (H:Heap) (Q:Kx):Prop:=(⟨_,by
 simp only[b221_0,w1,sub,List.map,Option.map,↓reduceIte,Nat.reduceEqDiff]
 exact rfl⟩:Yb b221_0 S e H Q).1
theorem h221_0 (S:Sys) (e:Fe) (H:Heap) (Q:Kx):wpC S b221_0 e H Q=s221_0 S e H Q:=@Subtype.property Prop (fun p=>wpC S b221_0 e H Q=p) _
def l221_0 (S:Sys) {Q:Kx}:=@WLi b221_0 s221_0 h221_0 S Q
def s221 (S:Sys) (a0 a1:Value) (H:Heap) (R:Kv):Prop:=(⟨_,by
 simp only[k221,w1,sub,List.map,Option.map,↓reduceIte,Nat.reduceEqDiff]
 exact rfl⟩:Yw k221 S [a0,a1] H R).1
theorem w221 {S:Sys} (x:S.R 221=none) (y:S.F 221=some k221) (a0 a1:Value) {H:Heap} {R:Kv} (h:s221 S a0 a1 H R):Wf S 221 [a0,a1] H R:=Wz x y (@Subtype.property Prop (fun p=>wpC S k221.body _ H _=p) _) h
def s224_1 (S:Sys) (e:Fe) (H:Heap) (Q:Kx):Prop:=(⟨_,by
 simp only[b224_1,w1,sub,List.map,Option.map,↓reduceIte,Nat.reduceEqDiff]
 exact rfl⟩:Yb b224_1 S e H Q).1
theorem h224_1 (S:Sys) (e:Fe) (H:Heap) (Q:Kx):wpC S b224_1 e H Q=s224_1 S e H Q:=@Subtype.property Prop (fun p=>wpC S b224_1 e H Q=p) _
def l224_1 (S:Sys) {Q:Kx}:=@WLi b224_1 s224_1 h224_1 S Q
def s224_0 (S:Sys) (e:Fe) (H:Heap) (Q:Kx):Prop:=(⟨_,by
 simp only[b224_0,w1,sub,List.map,Option.map,↓reduceIte,Nat.reduceEqDiff]
 exact rfl⟩:Yb b224_0 S e H Q).1
theorem h224_0 (S:Sys) (e:Fe) (H:Heap) (Q:Kx):wpC S b224_0 e H Q=s224_0 S e H Q:=@Subtype.property Prop (fun p=>wpC S b224_0 e H Q=p) _
def l224_0 (S:Sys) {Q:Kx}:=@WLi b224_0 s224_0 h224_0 S Q
def s224 (S:Sys) (a0 a1:Value) (H:Heap) (R:Kv):Prop:=(⟨_,by
 simp only[k224,w1,sub,List.map,Option.map,↓reduceIte,Nat.reduceEqDiff]
 exact rfl⟩:Yw k224 S [a0,a1] H R).1
theorem w224 {S:Sys} (x:S.R 224=none) (y:S.F 224=some k224) (a0 a1:Value) {H:Heap} {R:Kv} (h:s224 S a0 a1 H R):Wf S 224 [a0,a1] H R:=Wz x y (@Subtype.property Prop (fun p=>wpC S k224.body _ H _=p) _) h
def s227 (S:Sys) (a0:Value) (H:Heap) (R:Kv):Prop:=(⟨_,by
 simp only[k227,w1,sub,List.map,Option.map,↓reduceIte,Nat.reduceEqDiff]
 exact rfl⟩:Yw k227 S [a0] H R).1
theorem w227 {S:Sys} (x:S.R 227=none) (y:S.F 227=some k227) (a0:Value) {H:Heap} {R:Kv} (h:s227 S a0 H R):Wf S 227 [a0] H R:=Wz x y (@Subtype.property Prop (fun p=>wpC S k227.body _ H _=p) _) h
def s234_0 (S:Sys) (e:Fe) (H:Heap) (Q:Kx):Prop:=(⟨_,by
 simp only[b234_0,w1,sub,List.map,Option.map,↓reduceIte,Nat.reduceEqDiff]
 exact rfl⟩:Yb b234_0 S e H Q).1
theorem h234_0 (S:Sys) (e:Fe) (H:Heap) (Q:Kx):wpC S b234_0 e H Q=s234_0 S e H Q:=@Subtype.property Prop (fun p=>wpC S b234_0 e H Q=p) _
def l234_0 (S:Sys) {Q:Kx}:=@WLi b234_0 s234_0 h234_0 S Q
def s234 (S:Sys) (a0:Value) (H:Heap) (R:Kv):Prop:=(⟨_,by
 simp only[k234,w1,sub,List.map,Option.map,↓reduceIte,Nat.reduceEqDiff]
 exact rfl⟩:Yw k234 S [a0] H R).1
theorem w234 {S:Sys} (x:S.R 234=none) (y:S.F 234=some k234) (a0:Value) {H:Heap} {R:Kv} (h:s234 S a0 H R):Wf S 234 [a0] H R:=Wz x y (@Subtype.property Prop (fun p=>wpC S k234.body _ H _=p) _) h
def s235_1 (S:Sys) (e:Fe) (H:Heap) (Q:Kx):Prop:=(⟨_,by
 simp only[b235_1,w1,sub,List.map,Option.map,↓reduceIte,Nat.reduceEqDiff]
 exact rfl⟩:Yb b235_1 S e H Q).1
theorem h235_1 (S:Sys) (e:Fe) (H:Heap) (Q:Kx):wpC S b235_1 e H Q=s235_1 S e H Q:=@Subtype.property Prop (fun p=>wpC S b235_1 e H Q=p) _
def l235_1 (S:Sys) {Q:Kx}:=@WLi b235_1 s235_1 h235_1 S Q
def s235_0 (S:Sys) (e:Fe) (H:Heap) (Q:Kx):Prop:=(⟨_,by
 simp only[b235_0,w1,sub,List.map,Option.map,↓reduceIte,Nat.reduceEqDiff]
 exact rfl⟩:Yb b235_0 S e H Q).1
theorem h235_0 (S:Sys) (e:Fe) (H:Heap) (Q:Kx):wpC S b235_0 e H Q=s235_0 S e H Q:=@Subtype.property Prop (fun p=>wpC S b235_0 e H Q=p) _
def l235_0 (S:Sys) {Q:Kx}:=@WLi b235_0 s235_0 h235_0 S Q
def s235 (S:Sys) (a0:Value) (H:Heap) (R:Kv):Prop:=(⟨_,by
 simp only[k235,w1,sub,List.map,Option.map,↓reduceIte,Nat.reduceEqDiff]
 exact rfl⟩:Yw k235 S [a0] H R).1
theorem w235 {S:Sys} (x:S.R 235=none) (y:S.F 235=some k235) (a0:Value) {H:Heap} {R:Kv} (h:s235 S a0 H R):Wf S 235 [a0] H R:=Wz x y (@Subtype.property Prop (fun p=>wpC S k235.body _ H _=p) _) h
def s236_0 (S:Sys) (e:Fe) (H:Heap) (Q:Kx):Prop:=(⟨_,by
 simp only[b236_0,w1,sub,List.map,Option.map,↓reduceIte,Nat.reduceEqDiff]
 exact rfl⟩:Yb b236_0 S e H Q).1
theorem h236_0 (S:Sys) (e:Fe) (H:Heap) (Q:Kx):wpC S b236_0 e H Q=s236_0 S e H Q:=@Subtype.property Prop (fun p=>wpC S b236_0 e H Q=p) _
def l236_0 (S:Sys) {Q:Kx}:=@WLi b236_0 s236_0 h236_0 S Q
def s236 (S:Sys) (a0 a1:Value) (H:Heap) (R:Kv):Prop:=(⟨_,by
 simp only[k236,w1,sub,List.map,Option.map,↓reduceIte,Nat.reduceEqDiff]
 exact rfl⟩:Yw k236 S [a0,a1] H R).1
theorem w236 {S:Sys} (x:S.R 236=none) (y:S.F 236=some k236) (a0 a1:Value) {H:Heap} {R:Kv} (h:s236 S a0 a1 H R):Wf S 236 [a0,a1] H R:=Wz x y (@Subtype.property Prop (fun p=>wpC S k236.body _ H _=p) _) h
def s237_0 (S:Sys) (e:Fe) (H:Heap) (Q:Kx):Prop:=(⟨_,by
 simp only[b237_0,w1,sub,List.map,Option.map,↓reduceIte,Nat.reduceEqDiff]
 exact rfl⟩:Yb b237_0 S e H Q).1
theorem h237_0 (S:Sys) (e:Fe) (H:Heap) (Q:Kx):wpC S b237_0 e H Q=s237_0 S e H Q:=@Subtype.property Prop (fun p=>wpC S b237_0 e H Q=p) _
def l237_0 (S:Sys) {Q:Kx}:=@WLi b237_0 s237_0 h237_0 S Q
def s237 (S:Sys) (a0:Value) (H:Heap) (R:Kv):Prop:=(⟨_,by
 simp only[k237,w1,sub,List.map,Option.map,↓reduceIte,Nat.reduceEqDiff]
 exact rfl⟩:Yw k237 S [a0] H R).1
theorem w237 {S:Sys} (x:S.R 237=none) (y:S.F 237=some k237) (a0:Value) {H:Heap} {R:Kv} (h:s237 S a0 H R):Wf S 237 [a0] H R:=Wz x y (@Subtype.property Prop (fun p=>wpC S k237.body _ H _=p) _) h
def s238_0 (S:Sys) (e:Fe) (H:Heap) (Q:Kx):Prop:=(⟨_,by
 simp only[b238_0,w1,sub,List.map,Option.map,↓reduceIte,Nat.reduceEqDiff]
 exact rfl⟩:Yb b238_0 S e H Q).1
theorem h238_0 (S:Sys) (e:Fe) (H:Heap) (Q:Kx):wpC S b238_0 e H Q=s238_0 S e H Q:=@Subtype.property Prop (fun p=>wpC S b238_0 e H Q=p) _
def l238_0 (S:Sys) {Q:Kx}:=@WLi b238_0 s238_0 h238_0 S Q
def s238 (S:Sys) (a0 a1 a2:Value) (H:Heap) (R:Kv):Prop:=(⟨_,by
 simp only[k238,w1,sub,List.map,Option.map,↓reduceIte,Nat.reduceEqDiff]
 exact rfl⟩:Yw k238 S [a0,a1,a2] H R).1
theorem w238 {S:Sys} (x:S.R 238=none) (y:S.F 238=some k238) (a0 a1 a2:Value) {H:Heap} {R:Kv} (h:s238 S a0 a1 a2 H R):Wf S 238 [a0,a1,a2] H R:=Wz x y (@Subtype.property Prop (fun p=>wpC S k238.body _ H _=p) _) h
def s239_0 (S:Sys) (e:Fe) (H:Heap) (Q:Kx):Prop:=(⟨_,by
 simp only[b239_0,w1,sub,List.map,Option.map,↓reduceIte,Nat.reduceEqDiff]
 exact rfl⟩:Yb b239_0 S e H Q).1
theorem h239_0 (S:Sys) (e:Fe) (H:Heap) (Q:Kx):wpC S b239_0 e H Q=s239_0 S e H Q:=@Subtype.property Prop (fun p=>wpC S b239_0 e H Q=p) _
def l239_0 (S:Sys) {Q:Kx}:=@WLi b239_0 s239_0 h239_0 S Q
def s239 (S:Sys) (a0 a1:Value) (H:Heap) (R:Kv):Prop:=(⟨_,by
 simp only[k239,w1,sub,List.map,Option.map,↓reduceIte,Nat.reduceEqDiff]
 exact rfl⟩:Yw k239 S [a0,a1] H R).1
theorem w239 {S:Sys} (x:S.R 239=none) (y:S.F 239=some k239) (a0 a1:Value) {H:Heap} {R:Kv} (h:s239 S a0 a1 H R):Wf S 239 [a0,a1] H R:=Wz x y (@Subtype.property Prop (fun p=>wpC S k239.body _ H _=p) _) h
def s240 (S:Sys) (a0:Value) (H:Heap) (R:Kv):Prop:=(⟨_,by
 simp only[k240,w1,sub,List.map,Option.map,↓reduceIte,Nat.reduceEqDiff]
 exact rfl⟩:Yw k240 S [a0] H R).1
theorem w240 {S:Sys} (x:S.R 240=none) (y:S.F 240=some k240) (a0:Value) {H:Heap} {R:Kv} (h:s240 S a0 H R):Wf S 240 [a0] H R:=Wz x y (@Subtype.property Prop (fun p=>wpC S k240.body _ H _=p) _) h
def s241 (S:Sys) (a0 a1:Value) (H:Heap) (R:Kv):Prop:=(⟨_,by
 simp only[k241,w1,sub,List.map,Option.map,↓reduceIte,Nat.reduceEqDiff]
 exact rfl⟩:Yw k241 S [a0,a1] H R).1
theorem w241 {S:Sys} (x:S.R 241=none) (y:S.F 241=some k241) (a0 a1:Value) {H:Heap} {R:Kv} (h:s241 S a0 a1 H R):Wf S 241 [a0,a1] H R:=Wz x y (@Subtype.property Prop (fun p=>wpC S k241.body _ H _=p) _) h
def s242_0 (S:Sys) (e:Fe) (H:Heap) (Q:Kx):Prop:=(⟨_,by
 simp only[b242_0,w1,sub,List.map,Option.map,↓reduceIte,Nat.reduceEqDiff]
 exact rfl⟩:Yb b242_0 S e H Q).1
theorem h242_0 (S:Sys) (e:Fe) (H:Heap) (Q:Kx):wpC S b242_0 e H Q=s242_0 S e H Q:=@Subtype.property Prop (fun p=>wpC S b242_0 e H Q=p) _
def l242_0 (S:Sys) {Q:Kx}:=@WLi b242_0 s242_0 h242_0 S Q
def s242 (S:Sys) (a0:Value) (H:Heap) (R:Kv):Prop:=(⟨_,by
 simp only[k242,w1,sub,List.map,Option.map,↓reduceIte,Nat.reduceEqDiff]
 exact rfl⟩:Yw k242 S [a0] H R).1
theorem w242 {S:Sys} (x:S.R 242=none) (y:S.F 242=some k242) (a0:Value) {H:Heap} {R:Kv} (h:s242 S a0 H R):Wf S 242 [a0] H R:=Wz x y (@Subtype.property Prop (fun p=>wpC S k242.body _ H _=p) _) h
def s243_0 (S:Sys) (e:Fe) (H:Heap) (Q:Kx):Prop:=(⟨_,by
 simp only[b243_0,w1,sub,List.map,Option.map,↓reduceIte,Nat.reduceEqDiff]
 exact rfl⟩:Yb b243_0 S e H Q).1
theorem h243_0 (S:Sys) (e:Fe) (H:Heap) (Q:Kx):wpC S b243_0 e H Q=s243_0 S e H Q:=@Subtype.property Prop (fun p=>wpC S b243_0 e H Q=p) _
def l243_0 (S:Sys) {Q:Kx}:=@WLi b243_0 s243_0 h243_0 S Q
def s243 (S:Sys) (a0:Value) (H:Heap) (R:Kv):Prop:=(⟨_,by
 simp only[k243,w1,sub,List.map,Option.map,↓reduceIte,Nat.reduceEqDiff]
 exact rfl⟩:Yw k243 S [a0] H R).1
theorem w243 {S:Sys} (x:S.R 243=none) (y:S.F 243=some k243) (a0:Value) {H:Heap} {R:Kv} (h:s243 S a0 H R):Wf S 243 [a0] H R:=Wz x y (@Subtype.property Prop (fun p=>wpC S k243.body _ H _=p) _) h
def s250 (S:Sys) (a0:Value) (H:Heap) (R:Kv):Prop:=(⟨_,by
 simp only[k250,w1,sub,List.map,Option.map,↓reduceIte,Nat.reduceEqDiff]
 exact rfl⟩:Yw k250 S [a0] H R).1
theorem w250 {S:Sys} (x:S.R 250=none) (y:S.F 250=some k250) (a0:Value) {H:Heap} {R:Kv} (h:s250 S a0 H R):Wf S 250 [a0] H R:=Wz x y (@Subtype.property Prop (fun p=>wpC S k250.body _ H _=p) _) h
def s251_0 (S:Sys) (e:Fe) (H:Heap) (Q:Kx):Prop:=(⟨_,by
 simp only[b251_0,w1,sub,List.map,Option.map,↓reduceIte,Nat.reduceEqDiff]
 exact rfl⟩:Yb b251_0 S e H Q).1
theorem h251_0 (S:Sys) (e:Fe) (H:Heap) (Q:Kx):wpC S b251_0 e H Q=s251_0 S e H Q:=@Subtype.property Prop (fun p=>wpC S b251_0 e H Q=p) _
def l251_0 (S:Sys) {Q:Kx}:=@WLi b251_0 s251_0 h251_0 S Q
def s251 (S:Sys) (a0 a1:Value) (H:Heap) (R:Kv):Prop:=(⟨_,by
 simp only[k251,w1,sub,List.map,Option.map,↓reduceIte,Nat.reduceEqDiff]
 exact rfl⟩:Yw k251 S [a0,a1] H R).1
theorem w251 {S:Sys} (x:S.R 251=none) (y:S.F 251=some k251) (a0 a1:Value) {H:Heap} {R:Kv} (h:s251 S a0 a1 H R):Wf S 251 [a0,a1] H R:=Wz x y (@Subtype.property Prop (fun p=>wpC S k251.body _ H _=p) _) h
def s252 (S:Sys) (a0 a1:Value) (H:Heap) (R:Kv):Prop:=(⟨_,by
 simp only[k252,w1,sub,List.map,Option.map,↓reduceIte,Nat.reduceEqDiff]
 exact rfl⟩:Yw k252 S [a0,a1] H R).1
theorem w252 {S:Sys} (x:S.R 252=none) (y:S.F 252=some k252) (a0 a1:Value) {H:Heap} {R:Kv} (h:s252 S a0 a1 H R):Wf S 252 [a0,a1] H R:=Wz x y (@Subtype.property Prop (fun p=>wpC S k252.body _ H _=p) _) h
def s253 (S:Sys) (a0 a1 a2:Value) (H:Heap) (R:Kv):Prop:=(⟨_,by
 simp only[k253,w1,sub,List.map,Option.map,↓reduceIte,Nat.reduceEqDiff]
 exact rfl⟩:Yw k253 S [a0,a1,a2] H R).1
theorem w253 {S:Sys} (x:S.R 253=none) (y:S.F 253=some k253) (a0 a1 a2:Value) {H:Heap} {R:Kv} (h:s253 S a0 a1 a2 H R):Wf S 253 [a0,a1,a2] H R:=Wz x y (@Subtype.property Prop (fun p=>wpC S k253.body _ H _=p) _) h
def s254 (S:Sys) (a0:Value) (H:Heap) (R:Kv):Prop:=(⟨_,by
 simp only[k254,w1,sub,List.map,Option.map,↓reduceIte,Nat.reduceEqDiff]
 exact rfl⟩:Yw k254 S [a0] H R).1
theorem w254 {S:Sys} (x:S.R 254=none) (y:S.F 254=some k254) (a0:Value) {H:Heap} {R:Kv} (h:s254 S a0 H R):Wf S 254 [a0] H R:=Wz x y (@Subtype.property Prop (fun p=>wpC S k254.body _ H _=p) _) h
def s256 (S:Sys) (a0 a1:Value) (H:Heap) (R:Kv):Prop:=(⟨_,by
 simp only[k256,w1,sub,List.map,Option.map,↓reduceIte,Nat.reduceEqDiff]
 exact rfl⟩:Yw k256 S [a0,a1] H R).1
theorem w256 {S:Sys} (x:S.R 256=none) (y:S.F 256=some k256) (a0 a1:Value) {H:Heap} {R:Kv} (h:s256 S a0 a1 H R):Wf S 256 [a0,a1] H R:=Wz x y (@Subtype.property Prop (fun p=>wpC S k256.body _ H _=p) _) h
def s259 (S:Sys) (a0 a1:Value) (H:Heap) (R:Kv):Prop:=(⟨_,by
 simp only[k259,w1,sub,List.map,Option.map,↓reduceIte,Nat.reduceEqDiff]
 exact rfl⟩:Yw k259 S [a0,a1] H R).1
theorem w259 {S:Sys} (x:S.R 259=none) (y:S.F 259=some k259) (a0 a1:Value) {H:Heap} {R:Kv} (h:s259 S a0 a1 H R):Wf S 259 [a0,a1] H R:=Wz x y (@Subtype.property Prop (fun p=>wpC S k259.body _ H _=p) _) h
def s260 (S:Sys) (a0:Value) (H:Heap) (R:Kv):Prop:=(⟨_,by
 simp only[k260,w1,sub,List.map,Option.map,↓reduceIte,Nat.reduceEqDiff]
 exact rfl⟩:Yw k260 S [a0] H R).1
theorem w260 {S:Sys} (x:S.R 260=none) (y:S.F 260=some k260) (a0:Value) {H:Heap} {R:Kv} (h:s260 S a0 H R):Wf S 260 [a0] H R:=Wz x y (@Subtype.property Prop (fun p=>wpC S k260.body _ H _=p) _) h
end Go.Proofs.YtjgpbhodbgjggaaGreat.K
