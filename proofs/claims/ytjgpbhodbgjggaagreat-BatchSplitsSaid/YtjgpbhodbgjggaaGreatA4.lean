/- A part of the proof of PBatchSplits, made small by a program of this work (mini.py). Conditions: none. -/
import Derived.Test.YtjgpbhodbgjggaaGreatProg
import Derived.Test.YtjgpbhodbgjggaaGreatA2
set_option linter.defProp false
set_option linter.unusedVariables false
set_option linter.unusedSimpArgs false
set_option maxRecDepth 100000
set_option maxHeartbeats 4000000
namespace Go.Proofs.YtjgpbhodbgjggaaGreat.K
open Go Go.Proofs
namespace W
def t (n:Nat):Opd:=.t n
def c (v:Value):Opd:=.c v
def n (k:Int):Value:=.int .i64 k
def N (k:Int):Value:=.int .u64 k
def T:Value:=.bool true
def F:Value:=.bool false
def Z:Value:=.slice none 0 0
def P:Value:=.pointer none
def E:Value:=.string (bs [])
def m (d s:Nat):zac:=.op (some d) none (.mv (.t s))
def M (d:Nat) (v:Value):zac:=.op (some d) none (.mv (.c v))
def v (d:Nat) (b:BinOp) (x y:Nat):zac:=.op (some d) none (.bin b (.t x) (.t y))
def u (d:Nat) (b:BinOp) (x:Nat) (y:Int):zac:=.op (some d) none (.bin b (.t x) (.c (.int .i64 y)))
def C (d:Nat) (f:FuncId) (l:List Opd):zac:=.op (some d) none (.call f l)
def p (d x y:Nat):zac:=.op (some d) none (.pick (.t x) (.c (.bool true)) (.t y))
def a (d x y:Nat):zac:=.op (some d) none (.pick (.t x) (.t y) (.c (.bool false)))
def x (d s i:Nat):zac:=.op (some d) none (.xt (.t s) i)
def l (d s:Nat):zac:=.op (some d) none (.ld (.t s))
def L (d s:Nat):zac:=.op (some d) none (.lenL (.t s))
def f (d n s:Nat):zac:=.op (some d) none (.fad n (.t s))
def e (d z s i:Nat):zac:=.op (some d) none (.iad z (.t s) (.t i))
def o (d:Nat) (k:KOp):zac:=.op (some d) none k
def O (k:KOp):zac:=.op none none k
def g (d s:Nat) (w:Bool) (k:KOp):zac:=.op (some d) (some (s,w)) k
def G (s:Nat) (w:Bool) (k:KOp):zac:=.op none (some (s,w)) k
def h (d s:Nat) (w:Bool) (x:Nat):zac:=.op (some d) (some (s,w)) (.mv (.t x))
def r (l:List zac):zae:=.reg l
def k (s:Nat) (a b:zae):zae:=.cond (.t s) a b
def q:List zae→zae
 | []=>.skip
 | [c]=>c
 |c::d::l=>.seq c (q (d::l))
theorem nf:(∀i,t i=.t i)∧(∀w,c w=.c w)∧(∀i,n i=.int .i64 i)∧(∀i,N i=.int .u64 i)∧(T=.bool true)∧(F=.bool false)∧(Z=.slice none 0 0)∧(P=.pointer none)∧(E=.string (bs []))∧
 (∀d s,m d s=.op (some d) none (.mv (.t s)))∧(∀d w,M d w=.op (some d) none (.mv (.c w)))∧(∀d b x y,v d b x y=.op (some d) none (.bin b (.t x) (.t y)))∧
 (∀d b x y,u d b x y=.op (some d) none (.bin b (.t x) (.c (.int .i64 y))))∧(∀d f l,C d f l=.op (some d) none (.call f l))∧(∀d x y,p d x y=.op (some d) none (.pick (.t x) (.c (.bool true)) (.t y)))∧
 (∀d x y,a d x y=.op (some d) none (.pick (.t x) (.t y) (.c (.bool false))))∧(∀d s i,x d s i=.op (some d) none (.xt (.t s) i))∧(∀d s,l d s=.op (some d) none (.ld (.t s)))∧(∀d s,L d s=.op (some d) none (.lenL (.t s)))∧
 (∀d n s,f d n s=.op (some d) none (.fad n (.t s)))∧(∀d z s i,e d z s i=.op (some d) none (.iad z (.t s) (.t i)))∧(∀d k,o d k=.op (some d) none k)∧(∀k,O k=.op none none k)∧(∀d s w k,g d s w k=.op (some d) (some (s,w)) k)∧
 (∀s w k,G s w k=.op none (some (s,w)) k)∧(∀d s w x,h d s w x=.op (some d) (some (s,w)) (.mv (.t x)))∧(∀l,r l=.reg l)∧(∀s a b,k s a b=.cond (.t s) a b)∧(∀c,q [c]=c)∧(∀c d l,q (c::d::l)=.seq c (q (d::l))):=by
 refine ⟨?_,?_,?_,?_,?_,?_,?_,?_,?_,?_,?_,?_,?_,?_,?_,?_,?_,?_,?_,?_,?_,?_,?_,?_,?_,?_,?_,?_,?_,?_⟩<;>intros<;>rfl
end W
section
open W
def b13_1:zae:=(⟨_,by first|(simp only[nf];exact rfl)|rfl⟩:{y//(q [r [v 26 .lss 25 24],k 26 .skip (.exit 0),.block 1 (q [r [e 27 1 23 25,l 28 27,
 m 8 28],q [r [m 29 8,o 30 (.lenS (t 29)),u 31 .gtr 30 100],k 31 (q [r [M 4 T],.ret]) .skip],r [m 32 6,m 33 32,h 34 33 false 8,g 35 33 false (.lenS
 (t 34)),h 36 33 false 5,g 37 33 false (.bin .gtr (t 35) (t 36)),p 38 33 37,m 6 38]]),r [u 39 .add 25 1,m 25 39]])=y}).1
def b13_0:zae:=(⟨_,by first|(simp only[nf];exact rfl)|rfl⟩:{y//(q [r [v 57 .lss 56 55],k 57 .skip (.exit 2),.block 3 (q [r [m 58 56,e 59 1 54 56,
 l 60 59,m 12 58,m 13 60],q [r [m 61 13,L 62 61,u 63 .eql 62 0,m 64 63,h 65 64 false 13,g 66 64 false (.lenL (t 65)),g 67 64 false (.bin .gtr (t 66)
 (c (n 100))),p 68 64 67,m 69 68,h 70 69 false 13,g 71 69 false (.call 39 [(t 70)]),h 72 69 false 5,g 73 69 false (.bin .gtr (t 71) (t 72)),
 p 74 69 73],k 74 (q [r [M 4 F],.ret]) .skip],q [r [m 75 12,u 76 .gtr 75 0],k 76 (q [r [m 77 9,m 78 12,u 79 .sub 78 1,e 80 1 77 79,l 81 80,m 14 81],
 r [m 82 14,L 83 82,u 84 .lss 83 100,m 85 84,h 86 85 true 14,h 88 85 true 13,g 89 85 true (.iad 1 (t 88) (c (n 0))),g 90 85 true (.ld (t 89)),
 g 91 85 true (.lenS (t 90)),h 93 85 true 5,g 87 85 true (.call 39 [(t 86)]),(.chk 90 (some (85,true)) (.ld (t 89))),g 92 85 true (.bin .add (t 87)
 (t 91)),g 94 85 true (.bin .leq (t 92) (t 93)),a 95 85 94],k 95 (q [r [M 4 F],.ret]) .skip]) .skip],r [m 96 11,m 97 13,o 98 (.app 9 1 16 (t 96)
 (t 97)),m 11 98]]),r [u 99 .add 56 1,m 56 99]])=y}).1
def k13:zaa:=(⟨_,by first|(simp only[nf];exact rfl)|rfl⟩:{y//(⟨107,(q [r [M 4 F],q [r [C 15 37 [],o 16 (.un .not (t 15))],k 16 (q [r [M 4 F],
 .ret]) .skip],q [r [m 17 0,L 18 17,u 19 .gtr 18 300],k 19 (q [r [M 4 T],.ret]) .skip],r [m 20 1,o 21 (.mx (t 20) [(c (n 1))]),o 22 (.mn (t 21) [(c
 (n 512))]),m 5 22],r [M 6 F],q [r [m 23 0,L 24 23,M 25 (n 0)],.block 0 (.loop b13_1)],r [m 41 0,m 42 1,C 43 46 [(t 41),(t 42)],m 40 43,x 44 40 0,
 x 45 40 1,m 9 44,m 10 45],q [r [m 46 6],k 46 (q [r [m 47 9,L 48 47,u 49 .eql 48 0,m 50 49,h 51 50 true 10,g 52 50 true (.bin .eql (t 51) (c (n 5))),
 a 53 50 52,m 4 53],.ret]) .skip],r [M 11 Z],q [r [m 54 9,L 55 54,M 56 (n 0)],.block 2 (.loop b13_0)],r [m 100 10,u 101 .eql 100 0,m 102 101,
 h 103 102 true 11,h 104 102 true 0,g 105 102 true (.call 44 [(t 103),(t 104)]),a 106 102 105,m 4 106],.ret]),[(.t 4)]⟩:zaa)=y}).1
def k15:zaa:=(⟨_,by first|(simp only[nf];exact rfl)|rfl⟩:{y//(⟨46,(q [r [M 8 E,M 9 (n 0)],.block 0 (q [r [m 13 0,o 14 (.lenS (t 13)),
 u 15 .gtr 14 512,m 16 15,h 17 16 false 1,g 18 16 false (.lenS (t 17)),g 19 16 false (.bin .gtr (t 18) (c (n 256))),p 20 16 19,m 12 20],k 12
 (q [r [M 8 E,M 9 (n 5)],.ret]) (q [r [m 22 2,u 23 .lss 22 0,m 24 23,h 25 24 false 2,g 26 24 false (.bin .gtr (t 25) (c (n 1073741824))),p 27 24 26,
 m 21 27],k 21 (q [r [M 8 E,M 9 (n 1)],.ret]) .skip])]),r [m 29 0,m 30 1,m 31 3,C 32 47 [(t 29),(t 30),(t 31)],m 28 32,x 33 28 0,x 34 28 1,m 10 33,
 m 11 34],r [m 35 10,m 36 2,m 37 0,o 38 (.lenS (t 37)),m 39 0,C 40 48 [(t 39)],o 41 (.build [(.int .i64 0),(.int .i64 0),(.int .i64 0),
 (.int .u64 0)] [(0,(1,(t 35))),(1,(1,(t 36))),(2,(1,(t 38))),(3,(1,(t 40)))]),C 42 49 [(t 41)],m 43 11,C 44 50 [(t 42),(t 43)],C 45 51 [(t 44)],
 m 8 45,M 9 (n 0)],.ret]),[(.t 8),(.t 9)]⟩:zaa)=y}).1
def k16:zaa:=(⟨_,by first|(simp only[nf];exact rfl)|rfl⟩:{y//(⟨49,(q [r [M 6 E,M 7 (n 0)],r [m 13 0,C 14 52 [(t 13)],m 8 14],r [m 16 8,
 C 17 53 [(t 16)],m 15 17,x 18 15 0,x 19 15 1,o 9 (.alloc 79 [(.int .i64 0),(.int .i64 0),(.int .i64 0),(.int .u64 0)]),O (.stn 4 (t 9) (t 18)),
 m 10 19],q [r [m 20 10,u 21 .neq 20 0],k 21 (q [r [m 22 10,M 6 E,m 7 22],.ret]) .skip],q [r [f 23 2 9,l 24 23,m 25 2,v 26 .gtr 24 25,m 27 26,
 g 28 27 false (.fad 2 (t 9)),g 29 27 false (.ld (t 28)),g 30 27 false (.bin .gtr (t 29) (c (n 512))),p 31 27 30],k 31 (q [r [M 6 E,M 7 (n 5)],
 .ret]) .skip],r [m 33 8,o 34 (.ldn 4 (t 9)),m 35 1,C 36 54 [(t 33),(t 34),(t 35)],m 32 36,x 37 32 0,x 38 32 1,m 11 37,m 12 38],.block 0
 (q [r [m 40 12,o 41 (.un .not (t 40)),m 39 41],k 39 (q [r [M 6 E,M 7 (n 3)],.ret]) (q [r [m 43 11,f 45 3 9,l 46 45,C 44 48 [(t 43)],(.chk 46 none
 (.ld (t 45))),v 47 .neq 44 46,m 42 47],k 42 (q [r [M 6 E,M 7 (n 4)],.ret]) .skip])]),r [m 48 11,m 6 48,M 7 (n 0)],.ret]),[(.t 6),
 (.t 7)]⟩:zaa)=y}).1
def b30_0:zae:=(⟨_,by first|(simp only[nf];exact rfl)|rfl⟩:{y//(q [q [r [m 5 4,m 6 0,o 7 (.lenS (t 6)),v 8 .lss 5 7],k 8 .skip (.exit 0)],.block 1
 (q [r [m 11 3,m 12 0,m 13 4,o 14 (.idS (t 12) (t 13)),o 15 (.cvt .u64 (t 14)),v 16 .xor 11 15,m 3 16],r [m 17 3,o 18 (.bin .mul (t 17) (c
 (N 11400714819323198485))),m 3 18],r [m 19 3,m 20 3,o 21 (.bin .quo (t 20) (c (N 536870912))),v 22 .xor 19 21,m 3 22]]),r [m 9 4,u 10 .add 9 1,
 m 4 10]])=y}).1
def k30:zaa:=(⟨_,by first|(simp only[nf];exact rfl)|rfl⟩:{y//(⟨34,(q [r [M 2 (N 0)],r [M 3 (N 7640891576956012808)],q [r [M 4 (n 0)],.block 0
 (.loop b30_0)],r [m 23 3,m 24 0,o 25 (.lenS (t 24)),o 26 (.cvt .u64 (t 25)),v 27 .add 23 26,m 3 27],r [m 28 3,o 29 (.bin .mul (t 28) (c
 (N 13787848793156543929))),m 3 29],r [m 30 3,m 31 3,o 32 (.bin .quo (t 31) (c (N 4294967296))),v 33 .xor 30 32,m 2 33],.ret]),[(.t 2)]⟩:zaa)=y}).1
def k37:zaa:=(⟨_,by first|(simp only[nf];exact rfl)|rfl⟩:{y//(⟨53,(q [r [M 0 F],r [o 8 (.bsl 9 2 [(.string (bs [])),(.string (bs []))] [(0,(1,(c
 (.string (bs [97,98]))))),(1,(1,(c (.string (bs [99])))))]),C 9 38 [(t 8),(c E),(c (n 0)),(c (n 1))],m 7 9,x 10 7 0,x 11 7 1,m 1 10,m 2 11],
 r [m 13 1,C 14 40 [(t 13),(c E)],m 12 14,x 15 12 0,x 16 12 1,m 3 15,m 4 16],r [m 18 1,C 19 43 [(t 18)],m 17 19,x 20 17 0,x 21 17 1,m 5 20,m 6 21],
 r [m 22 2,u 23 .eql 22 0,m 24 23,h 25 24 true 4,g 26 24 true (.bin .eql (t 25) (c (n 0))),a 27 24 26,m 28 27,h 29 28 true 6,g 30 28 true (.bin .eql
 (t 29) (c (n 0))),a 31 28 30,m 32 31,h 33 32 true 5,g 34 32 true (.bin .eql (t 33) (c (n 2))),a 35 32 34,m 36 35,h 37 36 true 3,g 38 36 true (.lenL
 (t 37)),g 39 36 true (.bin .eql (t 38) (c (n 2))),a 40 36 39,m 41 40,h 42 41 true 3,g 43 41 true (.iad 1 (t 42) (c (n 0))),g 44 41 true (.ld (t 43)),
 g 45 41 true (.bin .eql (t 44) (c (.string (bs [97,98])))),a 46 41 45,m 47 46,h 48 47 true 3,g 49 47 true (.iad 1 (t 48) (c (n 1))),g 50 47 true
 (.ld (t 49)),g 51 47 true (.bin .eql (t 50) (c (.string (bs [99])))),a 52 47 51,m 0 52],.ret]),[(.t 0)]⟩:zaa)=y}).1
def b38_0:zae:=(⟨_,by first|(simp only[nf];exact rfl)|rfl⟩:{y//(q [r [v 42 .lss 41 40],k 42 .skip (.exit 0),.block 1 (q [r [e 43 1 39 41,l 44 43,
 m 14 44],r [m 45 14,o 46 (.lenS (t 45)),o 47 (.cvt .u64 (t 46)),C 48 64 [(t 12),(t 47)]]]),r [u 49 .add 41 1,m 41 49]])=y}).1
def k38:zaa:=(⟨_,by first|(simp only[nf];exact rfl)|rfl⟩:{y//(⟨53,(q [r [M 8 E,M 9 (n 0)],q [r [m 15 0,L 16 15,u 17 .gtr 16 100,m 18 17,
 h 19 18 false 0,g 20 18 false (.call 70 [(t 19)]),g 21 18 false (.bin .gtr (t 20) (c (n 512))),p 22 18 21],k 22 (q [r [M 8 E,M 9 (n 5)],
 .ret]) .skip],r [m 24 0,C 25 69 [(t 24),(c E)],m 26 1,m 27 2,m 28 3,C 29 15 [(t 25),(t 26),(t 27),(t 28)],m 23 29,x 30 23 0,x 31 23 1,m 10 30,
 m 11 31],q [r [m 32 11,u 33 .neq 32 0],k 33 (q [r [m 34 11,M 8 E,m 9 34],.ret]) .skip],r [o 12 (.alloc 99 [(.slice none 0 0)])],r [m 35 0,L 36 35,
 o 37 (.cvt .u64 (t 36)),C 38 64 [(t 12),(t 37)]],q [r [m 39 0,L 40 39,M 41 (n 0)],.block 0 (.loop b38_0)],r [m 50 10,C 51 50 [(t 12),(t 50)],
 C 52 51 [(t 51)],m 8 52,M 9 (n 0)],.ret]),[(.t 8),(.t 9)]⟩:zaa)=y}).1
def b39_0:zae:=(⟨_,by first|(simp only[nf];exact rfl)|rfl⟩:{y//(q [q [r [m 5 4,m 6 0,L 7 6,v 8 .lss 5 7],k 8 .skip (.exit 0)],.block 1 (r [m 11 3,
 m 12 0,m 13 4,e 14 1 12 13,l 15 14,o 16 (.lenS (t 15)),v 17 .add 11 16,m 3 17]),r [m 9 4,u 10 .add 9 1,m 4 10]])=y}).1
def k39:zaa:=(⟨_,by first|(simp only[nf];exact rfl)|rfl⟩:{y//(⟨19,(q [r [M 2 (n 0)],r [M 3 (n 0)],q [r [M 4 (n 0)],.block 0 (.loop b39_0)],
 r [m 18 3,m 2 18],.ret]),[(.t 2)]⟩:zaa)=y}).1
def b40_0:zae:=(⟨_,by first|(simp only[nf];exact rfl)|rfl⟩:{y//(q [r [v 36 .lss 35 34],k 36 .skip (.exit 0),.block 1 (q [r [e 37 1 33 35,l 38 37,
 m 12 38],q [r [m 39 12,m 40 9,o 41 (.lenS (t 40)),v 42 .gtr 39 41],k 42 (q [r [M 4 Z,M 5 (n 3)],.ret]) .skip],r [m 43 10,m 44 9,m 45 12,o 46 (.slS
 (t 44) none (some (t 45))),m 49 9,m 50 12,o 51 (.slS (t 49) (some (t 50)) none),o 47 (.bsl 9 1 [(.string (bs []))] [(0,(1,(t 46)))]),o 48
 (.app 9 1 16 (t 43) (t 47)),m 10 48,m 9 51]]),r [u 52 .add 35 1,m 35 52]])=y}).1
def k40:zaa:=(⟨_,by first|(simp only[nf];exact rfl)|rfl⟩:{y//(⟨56,(q [r [M 4 Z,M 5 (n 0)],r [m 13 0,C 14 52 [(t 13)],m 6 14],r [m 16 6,
 C 17 71 [(t 16)],m 15 17,x 18 15 0,x 19 15 1,m 7 18,m 8 19],q [r [m 20 8,u 21 .neq 20 0],k 21 (q [r [m 22 8,M 4 Z,m 5 22],.ret]) .skip],r [m 24 6,
 C 25 72 [(t 24)],m 26 1,C 27 16 [(t 25),(t 26),(c (n 512))],m 23 27,x 28 23 0,x 29 23 1,m 9 28,m 8 29],q [r [m 30 8,u 31 .neq 30 0],k 31
 (q [r [m 32 8,M 4 Z,m 5 32],.ret]) .skip],r [M 10 Z],q [r [m 33 7,L 34 33,M 35 (n 0)],.block 0 (.loop b40_0)],q [r [m 53 9,o 54 (.bin .neq (t 53)
 (c E))],k 54 (q [r [M 4 Z,M 5 (n 3)],.ret]) .skip],r [m 55 10,m 4 55,M 5 (n 0)],.ret]),[(.t 4),(.t 5)]⟩:zaa)=y}).1
def k43:zaa:=(⟨_,by first|(simp only[nf];exact rfl)|rfl⟩:{y//(⟨13,(q [r [M 2 (n 0),M 3 (n 0)],r [m 6 0,C 7 52 [(t 6)],m 4 7],r [m 8 4,C 9 60 [(t 8),
 (c (n 100))],m 5 9],q [r [m 10 4,C 11 61 [(t 10)]],k 11 (q [r [M 2 (n 0),M 3 (n 3)],.ret]) .skip],r [m 12 5,m 2 12,M 3 (n 0)],.ret]),[(.t 2),
 (.t 3)]⟩:zaa)=y}).1
def b44_0:zae:=(⟨_,by first|(simp only[nf];exact rfl)|rfl⟩:{y//(q [r [v 14 .lss 13 12],k 14 .skip (.exit 0),.block 1 (q [r [m 15 13,m 5 15],
 r [m 16 0,m 17 5,e 18 1 16 17,l 19 18,m 20 1,m 21 5,e 22 1 20 21,l 23 22,v 24 .neq 19 23],k 24 (q [r [M 4 F],.ret]) .skip]),r [u 25 .add 13 1,
 m 13 25]])=y}).1
def k44:zaa:=(⟨_,by first|(simp only[nf];exact rfl)|rfl⟩:{y//(⟨26,(q [r [M 4 F],q [r [m 6 0,L 7 6,m 8 1,L 9 8,v 10 .neq 7 9],k 10 (q [r [M 4 F],
 .ret]) .skip],q [r [m 11 0,L 12 11,M 13 (n 0)],.block 0 (.loop b44_0)],r [M 4 T],.ret]),[(.t 4)]⟩:zaa)=y}).1
def b46_0:zae:=(⟨_,by first|(simp only[nf];exact rfl)|rfl⟩:{y//(q [r [v 16 .lss 15 14],k 16 .skip (.exit 0),.block 1 (q [r [e 17 1 13 15,l 18 17,
 m 9 18],q [r [m 19 9,o 20 (.lenS (t 19)),m 21 1,v 22 .gtr 20 21],k 22 (q [r [M 4 Z,M 5 (n 5)],.ret]) .skip],q [r [m 23 7,L 24 23,u 25 .eql 24 100,
 m 26 25,h 27 26 false 7,g 28 26 false (.call 70 [(t 27)]),h 29 26 false 9,g 30 26 false (.lenS (t 29)),g 31 26 false (.bin .add (t 28) (t 30)),
 h 32 26 false 1,g 33 26 false (.bin .gtr (t 31) (t 32)),p 34 26 33],k 34 (r [m 35 6,m 36 7,o 37 (.bsl 42 1 [(.slice none 0 0)] [(0,(1,(t 36)))]),
 o 38 (.app 42 1 24 (t 35) (t 37)),m 6 38,M 7 Z]) .skip],r [m 39 7,m 40 9,o 41 (.bsl 9 1 [(.string (bs []))] [(0,(1,(t 40)))]),o 42 (.app 9 1 16
 (t 39) (t 41)),m 7 42]]),r [u 43 .add 15 1,m 15 43]])=y}).1
def k46:zaa:=(⟨_,by first|(simp only[nf];exact rfl)|rfl⟩:{y//(⟨52,(q [r [M 4 Z,M 5 (n 0)],r [m 10 1,o 11 (.mx (t 10) [(c (n 1))]),o 12 (.mn
 (t 11) [(c (n 512))]),m 1 12],r [M 6 Z],r [M 7 Z],q [r [m 13 0,L 14 13,M 15 (n 0)],.block 0 (.loop b46_0)],q [r [m 44 7,L 45 44,u 46 .gtr 45 0],k 46
 (r [m 47 6,m 48 7,o 49 (.bsl 42 1 [(.slice none 0 0)] [(0,(1,(t 48)))]),o 50 (.app 42 1 24 (t 47) (t 49)),m 6 50]) .skip],r [m 51 6,m 4 51,M 5
 (n 0)],.ret]),[(.t 4),(.t 5)]⟩:zaa)=y}).1
def k47:zaa:=(⟨_,by first|(simp only[nf];exact rfl)|rfl⟩:{y//(⟨41,(q [r [M 6 (n 0),M 7 E],q [r [m 12 0,C 13 73 [(t 12)]],k 13 (q [r [m 14 0,o 15
 (.slS (t 14) none (some (c (n 1)))),M 6 (n 1),m 7 15],.ret]) .skip],r [m 16 1,m 17 0,m 18 2,C 19 74 [(t 16),(t 17),(t 18)],m 8 19],r [m 21 8,
 C 22 75 [(t 21)],m 20 22,x 23 20 0,x 24 20 1,m 9 23,m 10 24],q [r [m 25 0,m 26 8,C 27 77 [(t 25),(t 26)],C 28 76 [(t 27)],m 29 9,v 30 .add 28 29,
 m 11 30],r [m 31 10,m 32 31,h 33 32 true 11,g 34 32 true (.lenS (t 33)),h 35 32 true 0,g 36 32 true (.lenS (t 35)),g 37 32 true (.bin .lss (t 34)
 (t 36)),a 38 32 37],k 38 (q [r [m 39 11,M 6 (n 2),m 7 39],.ret]) .skip],r [m 40 0,M 6 (n 0),m 7 40],.ret]),[(.t 6),(.t 7)]⟩:zaa)=y}).1
def k48:zaa:=(⟨_,by first|(simp only[nf];exact rfl)|rfl⟩:{y//(⟨7,(q [r [M 2 (N 0)],r [C 3 78 [],m 4 0,C 5 79 [(t 3),(t 4)],C 6 80 [(t 5)],m 2 6],
 .ret]),[(.t 2)]⟩:zaa)=y}).1
def k49:zaa:=(⟨_,by first|(simp only[nf];exact rfl)|rfl⟩:{y//(⟨19,(q [r [o 1 (.box 79 (t 0)),M 2 P],r [o 3 (.alloc 99 [(.slice none 0 0)])],
 r [f 4 0 1,l 5 4,o 6 (.cvt .u64 (t 5)),f 8 1 1,l 9 8,o 10 (.cvt .u64 (t 9)),f 12 2 1,l 13 12,o 14 (.cvt .u64 (t 13)),f 16 3 1,l 17 16,C 7 81 [(t 3),
 (t 6),(c (n 1))],(.chk 9 none (.ld (t 8))),(.chk 13 none (.ld (t 12))),(.chk 17 none (.ld (t 16))),C 11 64 [(t 7),(t 10)],(.chk 13 none (.ld
 (t 12))),(.chk 17 none (.ld (t 16))),C 15 64 [(t 11),(t 14)],(.chk 17 none (.ld (t 16))),C 18 81 [(t 15),(t 17),(c (n 8))],m 2 18],.ret]),
 [(.t 2)]⟩:zaa)=y}).1
def k50:zaa:=(⟨_,by first|(simp only[nf];exact rfl)|rfl⟩:{y//(⟨17,(q [r [M 4 P],q [r [m 5 0,o 6 (.eqv .ptr false (t 5) (c P))],k 6 (q [r [M 4 P],
 .ret]) .skip],r [m 7 0,m 8 0,o 9 (.nck (t 8)),f 10 0 9,l 11 10,m 12 1,o 13 (.appS 5 (t 11) (t 12)),o 14 (.nck (t 7)),f 15 0 14,O (.st (t 15)
 (t 13))],r [m 16 0,m 4 16],.ret]),[(.t 4)]⟩:zaa)=y}).1
def k51:zaa:=(⟨_,by first|(simp only[nf];exact rfl)|rfl⟩:{y//(⟨10,(q [r [M 2 E],q [r [m 3 0,o 4 (.eqv .ptr false (t 3) (c P))],k 4 (q [r [M 2 E],
 .ret]) .skip],r [m 5 0,o 6 (.nck (t 5)),f 7 0 6,l 8 7,o 9 (.b2s 5 (t 8)),m 2 9],.ret]),[(.t 2)]⟩:zaa)=y}).1
def k52:zaa:=(⟨_,by first|(simp only[nf];exact rfl)|rfl⟩:{y//(⟨6,(q [r [M 2 P],r [m 3 0,o 4 (.build [(.string (bs [])),(.bool false)] [(0,(1,
 (t 3)))]),o 5 (.box 119 (t 4)),m 2 5],.ret]),[(.t 2)]⟩:zaa)=y}).1
def k53:zaa:=(⟨_,by first|(simp only[nf];exact rfl)|rfl⟩:{y//(⟨25,(q [r [o 2 (.alloc 79 [(.int .i64 0),(.int .i64 0),(.int .i64 0),(.int .u64 0)]),
 M 3 (n 0)],r [m 5 0,C 6 82 [(t 5),(c (n 1))],o 7 (.cvt .i64 (t 6)),m 8 0,C 9 60 [(t 8),(c (n 1073741824))],m 10 0,C 11 60 [(t 10),(c
 (n 1099511627776))],o 12 (.build [(.int .i64 0),(.int .i64 0),(.int .i64 0),(.int .u64 0)] [(0,(1,(t 7))),(1,(1,(t 9))),(2,(1,(t 11)))]),o 4
 (.alloc 79 [(.int .i64 0),(.int .i64 0),(.int .i64 0),(.int .u64 0)]),O (.stn 4 (t 4) (t 12))],r [m 13 0,C 14 82 [(t 13),(c (n 8))],f 15 3 4,O (.st
 (t 15) (t 14))],q [r [m 16 0,C 17 61 [(t 16)],m 18 17,g 19 18 false (.fad 0 (t 4)),g 20 18 false (.ld (t 19)),g 21 18 false (.bin .gtr (t 20) (c
 (n 2))),p 22 18 21],k 22 (q [r [o 23 (.build [(.int .i64 0),(.int .i64 0),(.int .i64 0),(.int .u64 0)] []),O (.stn 4 (t 2) (t 23)),M 3 (n 3)],
 .ret]) .skip],r [o 24 (.ldn 4 (t 4)),O (.stn 4 (t 2) (t 24)),M 3 (n 0)],.ret]),[(.cn 2 4),(.t 3)]⟩:zaa)=y}).1
def k54:zaa:=(⟨_,by first|(simp only[nf];exact rfl)|rfl⟩:{y//(⟨38,(q [r [o 4 (.box 79 (t 1)),M 6 E,M 7 F],q [r [f 10 0 4,l 11 10],.block 0
 (q [r [u 13 .eql 11 0,m 12 13],k 12 (q [r [m 14 0,f 15 2 4,l 16 15,C 17 83 [(t 14),(t 16)],m 8 17],r [m 18 8,m 19 0,C 20 63 [(t 19)],m 6 18,m 7 20],
 .ret]) (q [r [u 22 .eql 11 1,m 21 22],k 21 (q [r [m 23 0,C 24 83 [(t 23),(c (n 1))],m 9 24],r [m 25 9,f 26 2 4,l 27 26,C 28 84 [(t 25),(t 27)],
 m 29 0,C 30 63 [(t 29)],m 6 28,m 7 30],.ret]) .skip])])],r [m 31 0,m 32 2,f 33 2 4,l 34 33,C 35 85 [(t 31),(t 32),(t 34)],x 36 35 0,x 37 35 1,m 6 36,
 m 7 37],.ret]),[(.t 6),(.t 7)]⟩:zaa)=y}).1
def k60:zaa:=(⟨_,by first|(simp only[nf];exact rfl)|rfl⟩:{y//(⟨24,(q [r [M 4 (n 0)],r [m 6 0,C 7 89 [(t 6)],m 5 7],q [r [m 8 0,C 9 61 [(t 8)],
 m 10 9,h 11 10 false 1,g 12 10 false (.bin .lss (t 11) (c (n 0))),p 13 10 12,m 14 13,h 15 14 false 5,h 16 14 false 1,g 17 14 false (.cvt .u64
 (t 16)),g 18 14 false (.bin .gtr (t 15) (t 17)),p 19 14 18],k 19 (q [r [m 20 0,C 21 90 [(t 20)]],r [M 4 (n 0)],.ret]) .skip],r [m 22 5,o 23
 (.cvt .i64 (t 22)),m 4 23],.ret]),[(.t 4)]⟩:zaa)=y}).1
def k61:zaa:=(⟨_,by first|(simp only[nf];exact rfl)|rfl⟩:{y//(⟨11,(q [r [M 2 F],r [m 3 0,o 4 (.eqv .ptr false (t 3) (c P)),m 5 4,h 6 5 false 0,
 g 7 5 false (.nck (t 6)),g 8 5 false (.fad 1 (t 7)),g 9 5 false (.ld (t 8)),p 10 5 9,m 2 10],.ret]),[(.t 2)]⟩:zaa)=y}).1
def k63:zaa:=(⟨_,by first|(simp only[nf];exact rfl)|rfl⟩:{y//(⟨13,(q [r [M 2 F],r [m 3 0,C 4 61 [(t 3)],o 5 (.un .not (t 4)),m 6 5,h 7 6 true 0,
 g 8 6 true (.nck (t 7)),g 9 6 true (.fad 0 (t 8)),g 10 6 true (.ld (t 9)),g 11 6 true (.bin .eql (t 10) (c E)),a 12 6 11,m 2 12],.ret]),
 [(.t 2)]⟩:zaa)=y}).1
def b64_0:zae:=(⟨_,by first|(simp only[nf];exact rfl)|rfl⟩:{y//(q [q [r [m 7 1,o 8 (.bin .gtr (t 7) (c (N 127)))],k 8 .skip (.exit 0)],.block 1
 (q [r [m 9 0,m 10 0,o 11 (.nck (t 10)),f 12 0 11,l 13 12,m 14 1,o 15 (.cvt .u8 (t 14)),o 16 (.bin .or (t 15) (c (.int .u8 128))),o 17
 (.bsl 5 1 [(.int .u8 0)] [(0,(1,(t 16)))]),o 18 (.app 5 1 1 (t 13) (t 17)),o 19 (.nck (t 9)),f 20 0 19,O (.st (t 20) (t 18))],r [m 21 1,o 22
 (.bin .shr (t 21) (c (N 7))),m 1 22]])])=y}).1
def k64:zaa:=(⟨_,by first|(simp only[nf];exact rfl)|rfl⟩:{y//(⟨35,(q [r [M 4 P],q [r [m 5 0,o 6 (.eqv .ptr false (t 5) (c P))],k 6 (q [r [M 4 P],
 .ret]) .skip],.block 0 (.loop b64_0),r [m 23 0,m 24 0,o 25 (.nck (t 24)),f 26 0 25,l 27 26,m 28 1,o 29 (.cvt .u8 (t 28)),o 30
 (.bsl 5 1 [(.int .u8 0)] [(0,(1,(t 29)))]),o 31 (.app 5 1 1 (t 27) (t 30)),o 32 (.nck (t 23)),f 33 0 32,O (.st (t 33) (t 31))],r [m 34 0,m 4 34],
 .ret]),[(.t 4)]⟩:zaa)=y}).1
def k65:zaa:=(⟨_,by first|(simp only[nf];exact rfl)|rfl⟩:{y//(⟨12,(q [r [M 4 P],r [m 5 0,m 6 1,o 7 (.lenS (t 6)),o 8 (.cvt .u64 (t 7)),
 C 9 64 [(t 5),(t 8)],m 10 1,C 11 50 [(t 9),(t 10)],m 4 11],.ret]),[(.t 4)]⟩:zaa)=y}).1
def b70_0:zae:=(⟨_,by first|(simp only[nf];exact rfl)|rfl⟩:{y//(q [r [v 9 .lss 8 7],k 9 .skip (.exit 0),.block 1 (q [r [e 10 1 6 8,l 11 10,m 5 11],
 r [m 12 3,m 13 5,o 14 (.lenS (t 13)),v 15 .add 12 14,m 3 15]]),r [u 16 .add 8 1,m 8 16]])=y}).1
def k70:zaa:=(⟨_,by first|(simp only[nf];exact rfl)|rfl⟩:{y//(⟨18,(q [r [M 2 (n 0)],r [M 3 (n 0)],q [r [m 6 0,L 7 6,M 8 (n 0)],.block 0
 (.loop b70_0)],r [m 17 3,m 2 17],.ret]),[(.t 2)]⟩:zaa)=y}).1
def b71_0:zae:=(⟨_,by first|(simp only[nf];exact rfl)|rfl⟩:{y//(q [r [v 14 .lss 13 12],k 14 .skip (.exit 0),.block 1 (q [r [m 15 0,C 16 60 [(t 15),
 (c (n 1099511627776))],m 7 16],r [m 17 5,m 18 7,o 19 (.bsl 3 1 [(.int .i64 0)] [(0,(1,(t 18)))]),o 20 (.app 3 1 8 (t 17) (t 19)),m 5 20],r [m 21 6,
 m 22 7,v 23 .add 21 22,m 6 23]]),r [u 24 .add 13 1,m 13 24]])=y}).1
def k71:zaa:=(⟨_,by first|(simp only[nf];exact rfl)|rfl⟩:{y//(⟨32,(q [r [M 2 Z,M 3 (n 0)],r [m 8 0,C 9 60 [(t 8),(c (n 100))],m 4 9],q [r [m 10 0,
 C 11 61 [(t 10)]],k 11 (q [r [M 2 Z,M 3 (n 3)],.ret]) .skip],r [M 5 Z],r [M 6 (n 0)],q [r [m 12 4,M 13 (n 0)],.block 0 (.loop b71_0)],.block 2
 (q [r [m 26 0,C 27 61 [(t 26)],m 25 27],k 25 (q [r [M 2 Z,M 3 (n 3)],.ret]) (q [r [m 29 6,u 30 .gtr 29 512,m 28 30],k 28 (q [r [M 2 Z,M 3 (n 5)],
 .ret]) .skip])]),r [m 31 5,m 2 31,M 3 (n 0)],.ret]),[(.t 2),(.t 3)]⟩:zaa)=y}).1
def k72:zaa:=(⟨_,by first|(simp only[nf];exact rfl)|rfl⟩:{y//(⟨12,(q [r [M 2 E],q [r [m 3 0,C 4 61 [(t 3)]],k 4 (q [r [M 2 E],.ret]) .skip],
 r [m 5 0,m 6 0,o 7 (.nck (t 6)),f 8 0 7,l 9 8,o 10 (.lenS (t 9)),C 11 83 [(t 5),(t 10)],m 2 11],.ret]),[(.t 2)]⟩:zaa)=y}).1
def k73:zaa:=(⟨_,by first|(simp only[nf];exact rfl)|rfl⟩:{y//(⟨14,(q [r [M 2 F],r [m 3 0,o 4 (.bin .neq (t 3) (c E)),m 5 4,h 6 5 true 0,
 h 7 5 true 0,g 8 5 true (.slS (t 7) none (some (c (n 1)))),h 9 5 true 0,g 10 5 true (.lenS (t 9)),g 11 5 true (.call 84 [(t 8),(t 10)]),g 12 5 true
 (.bin .eql (t 6) (t 11)),a 13 5 12,m 2 13],.ret]),[(.t 2)]⟩:zaa)=y}).1
def b74_1:zae:=(⟨_,by first|(simp only[nf];exact rfl)|rfl⟩:{y//(q [r [v 37 .lss 36 35],k 37 .skip (.exit 0),.block 1 (q [r [m 38 36,m 10 38],
 r [m 39 9,m 40 10,C 41 105 [(t 39),(t 40)]]]),r [u 42 .add 36 1,m 36 42]])=y}).1
def b74_2:zae:=(⟨_,by first|(simp only[nf];exact rfl)|rfl⟩:{y//(q [r [v 82 .lss 81 80],k 82 .skip (.exit 4),.block 5 (q [r [m 83 9,m 84 13,
 C 85 105 [(t 83),(t 84)]],r [m 86 13,u 87 .add 86 1,m 13 87]]),r [u 88 .add 81 1,m 81 88]])=y}).1
def b74_0:zae:=(⟨_,by first|(simp only[nf];exact rfl)|rfl⟩:{y//(q [q [r [m 45 13,m 46 8,o 47 (.lenS (t 46)),v 48 .lss 45 47],k 48 .skip (.exit 2)],
 .block 3 (q [r [m 50 9,m 51 13,m 52 7,C 53 106 [(t 50),(t 51),(t 52)],m 49 53,x 54 49 0,x 55 49 1,m 14 54,m 15 55],r [m 56 9,m 57 13,
 C 58 105 [(t 56),(t 57)]],q [r [m 59 15,u 60 .eql 59 0,m 61 60,h 62 61 false 9,h 63 61 false 13,h 64 61 false 7,h 65 61 false 15,h 66 61 false 2,
 g 67 61 false (.call 107 [(t 62),(t 63),(t 64),(t 65),(t 66)]),p 68 61 67],k 68 (q [r [m 69 12,u 70 .add 69 1,m 12 70],r [m 71 13,u 72 .add 71 1,
 m 13 72],.exit 3]) .skip],r [m 73 11,m 74 12,m 75 15,m 76 14,o 77 (.build [(.int .i64 0),(.int .i64 0),(.int .i64 0)] [(0,(1,(t 74))),(1,(1,(t 75))),
 (2,(1,(t 76)))]),o 78 (.bsl 155 1 [(.int .i64 0),(.int .i64 0),(.int .i64 0)] [(0,(3,(t 77)))]),o 79 (.app 155 3 24 (t 73) (t 78)),m 11 79],r [M 12
 (n 0)],r [m 80 15,M 81 (n 0)],.block 4 (.loop b74_2)])])=y}).1
def k74:zaa:=(⟨_,by first|(simp only[nf];exact rfl)|rfl⟩:{y//(⟨90,(q [r [M 6 Z],r [m 16 2,C 17 101 [(t 16)],m 2 17],r [m 18 2,C 19 102 [(t 18)],
 m 7 19],q [r [m 20 7,u 21 .eql 20 0],k 21 (q [r [M 6 Z],.ret]) .skip],r [m 22 0,m 24 1,m 25 1,o 26 (.lenS (t 25)),o 27 (.mn (t 26) [(c (n 600))]),
 o 28 (.slS (t 24) none (some (t 27))),C 23 103 [(t 22),(c (n 600))],m 0 23,m 1 28],r [m 29 0,m 30 1,v 31 .add 29 30,m 8 31],r [m 32 8,
 C 33 104 [(t 32)],m 9 33],q [r [m 34 0,o 35 (.lenS (t 34)),M 36 (n 0)],.block 0 (.loop b74_1)],r [M 11 Z],r [M 12 (n 0)],q [r [m 43 0,o 44 (.lenS
 (t 43)),m 13 44],.block 2 (.loop b74_0)],r [m 89 11,m 6 89],.ret]),[(.t 6)]⟩:zaa)=y}).1
def b75_0:zae:=(⟨_,by first|(simp only[nf];exact rfl)|rfl⟩:{y//(q [r [u 79 .lss 78 3],k 79 .skip (.exit 4),.block 5 (q [r [o 80 (.ida 3 (t 77)
 (t 78)),m 20 80],r [m 81 20,C 82 112 [(t 81)],C 83 50 [(t 4),(t 82)]]]),r [u 84 .add 78 1,m 78 84]])=y}).1
def b75_2:zae:=(⟨_,by first|(simp only[nf];exact rfl)|rfl⟩:{y//(q [r [u 50 .lss 49 3],k 50 .skip (.exit 2),.block 3 (q [r [m 51 49,o 52 (.ida 3
 (t 48) (t 49)),m 13 51,m 14 52],r [m 54 14,C 55 110 [(t 54)],m 53 55,x 56 53 0,x 57 53 1,x 58 53 2,x 59 53 3,m 15 56,m 16 57,m 17 58,m 18 59],
 q [r [m 60 18,o 61 (.un .not (t 60))],k 61 (q [r [M 2 E,M 3 F],.ret]) .skip],r [m 62 13,m 63 13,o 64 (.iada 3 1 (t 5) (t 63)),l 65 64,m 66 15,o 67
 (.bsl 5 1 [(.int .u8 0)] [(0,(1,(t 66)))]),o 68 (.app 5 1 1 (t 65) (t 67)),o 69 (.iada 3 1 (t 5) (t 62)),O (.st (t 69) (t 68))],r [m 70 16,o 71
 (.cvt .u32 (t 70)),m 72 17,C 73 111 [(t 6),(t 71),(t 72)]]]),r [u 74 .add 49 1,m 49 74]])=y}).1
def b75_1:zae:=(⟨_,by first|(simp only[nf];exact rfl)|rfl⟩:{y//(q [r [v 36 .lss 35 34],k 36 .skip (.exit 0),.block 1 (q [r [e 37 3 33 35,o 38
 (.ldn 3 (t 37)),o 9 (.alloc 155 [(.int .i64 0),(.int .i64 0),(.int .i64 0)]),O (.stn 3 (t 9) (t 38))],r [o 40 (.ldn 3 (t 9)),o 41 (.ldn 3 (t 7)),
 C 42 109 [(t 40),(t 41)],m 39 42,x 43 39 0,x 44 39 1,x 45 39 2,o 10 (.alloc 3 [(.int .i64 0),(.int .i64 0),(.int .i64 0)]),o 11
 (.alloc 3 [(.int .i64 0),(.int .i64 0),(.int .i64 0)]),O (.stn 3 (t 10) (t 43)),O (.stn 3 (t 11) (t 44)),m 12 45],q [r [m 46 12,o 47 (.un .not
 (t 46))],k 47 (q [r [M 2 E,M 3 F],.ret]) .skip],q [r [o 48 (.ldn 3 (t 10)),M 49 (n 0)],.block 2 (.loop b75_2)],r [o 75 (.ldn 3 (t 11)),O (.stn 3
 (t 7) (t 75))]]),r [u 76 .add 35 1,m 35 76]])=y}).1
def k75:zaa:=(⟨_,by first|(simp only[nf];exact rfl)|rfl⟩:{y//(⟨89,(q [r [M 2 E,M 3 F],q [r [m 21 0,L 22 21,u 23 .gtr 22 1000],k 23 (q [r [M 2 E,
 M 3 F],.ret]) .skip],r [o 4 (.alloc 99 [(.slice none 0 0)])],r [m 24 0,L 25 24,o 26 (.cvt .u64 (t 25)),C 27 64 [(t 4),(t 26)]],q [r [m 28 0,L 29 28,
 u 30 .eql 29 0],k 30 (q [r [C 31 51 [(t 4)],m 2 31,M 3 T],.ret]) .skip],r [o 5 (.alloc 95 [(.slice none 0 0),(.slice none 0 0),(.slice none 0 0)])],
 r [o 6 (.alloc 158 [(.slice none 0 0),(.int .i64 0)])],r [C 32 108 [],o 7 (.alloc 3 [(.int .i64 0),(.int .i64 0),(.int .i64 0)]),O (.stn 3 (t 7)
 (t 32))],q [r [m 33 0,L 34 33,M 35 (n 0)],.block 0 (.loop b75_1)],q [r [o 77 (.ldn 3 (t 5)),M 78 (n 0)],.block 4 (.loop b75_0)],r [C 85 113 [(t 6)],
 o 86 (.b2s 5 (t 85)),C 87 65 [(t 4),(t 86)],C 88 51 [(t 87)],m 2 88,M 3 T],.ret]),[(.t 2),(.t 3)]⟩:zaa)=y}).1
def k76:zaa:=(⟨_,by first|(simp only[nf];exact rfl)|rfl⟩:{y//(⟨32,(q [r [M 2 E],q [r [m 6 0,C 7 114 [(t 6)]],k 7 (q [r [m 8 0,o 9 (.lenS (t 8)),
 m 11 0,o 12 (.slS (t 11) none (some (c (n 1)))),C 10 115 [(c (n 1)),(t 9)],C 13 50 [(t 10),(t 12)],C 14 51 [(t 13)],m 2 14],.ret]) .skip],r [m 15 0,
 C 16 116 [(t 15)],m 3 16],q [r [m 18 0,C 19 117 [(t 18)],m 17 19,x 20 17 0,x 21 17 1,m 4 20,m 5 21],r [m 22 5,m 23 22,h 24 23 true 4,g 25 23 true
 (.lenS (t 24)),h 26 23 true 3,g 27 23 true (.lenS (t 26)),g 28 23 true (.bin .lss (t 25) (t 27)),a 29 23 28],k 29 (q [r [m 30 4,m 2 30],
 .ret]) .skip],r [m 31 3,m 2 31],.ret]),[(.t 2)]⟩:zaa)=y}).1
def k78:zaa:=(⟨_,by first|(simp only[nf];exact rfl)|rfl⟩:{y//(⟨2,(q [r [o 0 (.alloc 113 [(.int .u64 0),(.int .u64 0)])],r [o 1
 (.build [(.int .u64 0),(.int .u64 0)] [(0,(1,(c (N 7640891576956012808))))]),O (.stn 2 (t 0) (t 1))],.ret]),[(.cn 0 2)]⟩:zaa)=y}).1
def b79_0:zae:=(⟨_,by first|(simp only[nf];exact rfl)|rfl⟩:{y//(q [r [v 9 .lss 8 7],k 9 .skip (.exit 0),.block 1 (q [r [m 10 8,m 5 10],r [o 11
 (.ldn 2 (t 2)),m 12 1,m 13 5,o 14 (.idS (t 12) (t 13)),C 15 118 [(t 11),(t 14)],O (.stn 2 (t 2) (t 15))]]),r [u 16 .add 8 1,m 8 16]])=y}).1
def k79:zaa:=(⟨_,by first|(simp only[nf];exact rfl)|rfl⟩:{y//(⟨18,(q [r [o 2 (.box 113 (t 0)),o 4 (.alloc 113 [(.int .u64 0),(.int .u64 0)])],
 q [r [m 6 1,o 7 (.lenS (t 6)),M 8 (n 0)],.block 0 (.loop b79_0)],r [o 17 (.ldn 2 (t 2)),O (.stn 2 (t 4) (t 17))],.ret]),[(.cn 4 2)]⟩:zaa)=y}).1
def k80:zaa:=(⟨_,by first|(simp only[nf];exact rfl)|rfl⟩:{y//(⟨14,(q [r [o 1 (.box 113 (t 0)),M 2 (N 0)],r [f 4 0 1,l 5 4,f 6 1 1,l 7 6,
 v 8 .add 5 7,o 9 (.bin .mul (t 8) (c (N 13787848793156543929))),m 3 9],r [m 10 3,m 11 3,o 12 (.bin .shr (t 11) (c (N 32))),v 13 .xor 10 12,m 2 13],
 .ret]),[(.t 2)]⟩:zaa)=y}).1
def b81_0:zae:=(⟨_,by first|(simp only[nf];exact rfl)|rfl⟩:{y//(q [r [v 12 .lss 11 10],k 12 .skip (.exit 0),.block 1 (q [r [m 13 0,m 14 0,o 15
 (.nck (t 14)),f 16 0 15,l 17 16,m 18 1,o 19 (.cvt .u8 (t 18)),o 20 (.bsl 5 1 [(.int .u8 0)] [(0,(1,(t 19)))]),o 21 (.app 5 1 1 (t 17) (t 20)),o 22
 (.nck (t 13)),f 23 0 22,O (.st (t 23) (t 21))],r [m 24 1,o 25 (.bin .shr (t 24) (c (N 8))),m 1 25]]),r [u 26 .add 11 1,m 11 26]])=y}).1
def k81:zaa:=(⟨_,by first|(simp only[nf];exact rfl)|rfl⟩:{y//(⟨28,(q [r [M 6 P],q [r [m 7 0,o 8 (.eqv .ptr false (t 7) (c P))],k 8 (q [r [M 6 P],
 .ret]) .skip],q [r [m 9 2,C 10 119 [(t 9)],M 11 (n 0)],.block 0 (.loop b81_0)],r [m 27 0,m 6 27],.ret]),[(.t 6)]⟩:zaa)=y}).1
def b82_0:zae:=(⟨_,by first|(simp only[nf];exact rfl)|rfl⟩:{y//(q [r [v 15 .lss 14 13],k 15 .skip (.exit 0),.block 1 (q [r [m 16 14,e 17 1 12 14,
 l 18 17,m 6 16,m 7 18],r [m 19 5,m 20 7,o 21 (.cvt .u64 (t 20)),m 22 6,o 23 (.bin .mul (c (n 8)) (t 22)),v 24 .shl 21 23,v 25 .or 19 24,m 5 25]]),
 r [u 26 .add 14 1,m 14 26]])=y}).1
def k82:zaa:=(⟨_,by first|(simp only[nf];exact rfl)|rfl⟩:{y//(⟨28,(q [r [M 4 (N 0)],r [M 5 (N 0)],q [r [m 8 0,m 9 1,C 10 119 [(t 9)],C 11 83 [(t 8),
 (t 10)],o 12 (.s2b 5 (t 11)),L 13 12,M 14 (n 0)],.block 0 (.loop b82_0)],r [m 27 5,m 4 27],.ret]),[(.t 4)]⟩:zaa)=y}).1
def k83:zaa:=(⟨_,by first|(simp only[nf];exact rfl)|rfl⟩:{y//(⟨37,(q [r [M 4 E],r [m 6 1,o 7 (.mx (t 6) [(c (n 0))]),m 1 7],q [r [m 8 0,
 C 9 61 [(t 8)],m 10 9,h 11 10 false 0,g 12 10 false (.nck (t 11)),g 13 10 false (.fad 0 (t 12)),g 14 10 false (.ld (t 13)),g 15 10 false (.lenS
 (t 14)),h 16 10 false 1,g 17 10 false (.bin .lss (t 15) (t 16)),p 18 10 17],k 18 (q [r [m 19 0,C 20 90 [(t 19)]],r [M 4 E],.ret]) .skip],r [m 21 0,
 o 22 (.nck (t 21)),f 23 0 22,l 24 23,m 25 1,o 26 (.slS (t 24) none (some (t 25))),m 5 26],r [m 27 0,m 28 0,o 29 (.nck (t 28)),f 30 0 29,l 31 30,
 m 32 1,o 33 (.slS (t 31) (some (t 32)) none),o 34 (.nck (t 27)),f 35 0 34,O (.st (t 35) (t 33))],r [m 36 5,m 4 36],.ret]),[(.t 4)]⟩:zaa)=y}).1
def b89_0:zae:=(⟨_,by first|(simp only[nf];exact rfl)|rfl⟩:{y//(q [r [u 8 .lss 7 10],k 8 .skip (.exit 0),.block 1 (q [r [m 9 7,m 4 9],r [m 10 0,
 C 11 83 [(t 10),(c (n 1))],m 5 11],q [r [m 12 5,o 13 (.bin .eql (t 12) (c E))],k 13 (q [r [M 2 (N 0)],.ret]) .skip],r [m 14 5,o 15 (.idS (t 14) (c
 (n 0))),o 16 (.cvt .u64 (t 15)),m 6 16],q [r [m 17 4,u 18 .eql 17 9,m 19 18,h 20 19 true 6,g 21 19 true (.bin .gtr (t 20) (c (N 1))),a 22 19 21,
 m 23 22,h 24 23 false 4,g 25 23 false (.bin .gtr (t 24) (c (n 0))),h 26 23 false 25,h 27 26 true 6,g 28 26 true (.bin .eql (t 27) (c (N 0))),
 g 29 23 false (.pick (t 26) (t 28) (c F)),p 30 23 29],k 30 (.exit 0) .skip],r [m 31 3,m 32 6,o 33 (.bin .and (t 32) (c (N 127))),m 34 4,o 35
 (.bin .mul (c (n 7)) (t 34)),v 36 .shl 33 35,v 37 .or 31 36,m 3 37],r [m 38 6,o 39 (.bin .lss (t 38) (c (N 128)))],k 39 (q [r [m 40 3,m 2 40],
 .ret]) .skip]),r [u 41 .add 7 1,m 7 41]])=y}).1
def k89:zaa:=(⟨_,by first|(simp only[nf];exact rfl)|rfl⟩:{y//(⟨44,(q [r [M 2 (N 0)],r [M 3 (N 0)],q [r [M 7 (n 0)],.block 0 (.loop b89_0)],
 r [m 42 0,C 43 90 [(t 42)]],r [M 2 (N 0)],.ret]),[(.t 2)]⟩:zaa)=y}).1
def k101:zaa:=(⟨_,by first|(simp only[nf];exact rfl)|rfl⟩:{y//(⟨6,(q [r [M 2 (n 0)],r [m 3 0,o 4 (.mx (t 3) [(c (n 0))]),o 5 (.mn (t 4) [(c
 (n 3))]),m 2 5],.ret]),[(.t 2)]⟩:zaa)=y}).1
def k102:zaa:=(⟨_,by first|(simp only[nf];exact rfl)|rfl⟩:{y//(⟨10,(q [r [M 2 (n 0)],q [r [m 3 0,C 4 101 [(t 3)],m 0 4],r [m 5 0,u 6 .eql 5 0],k 6
 (q [r [M 2 (n 0)],.ret]) .skip],r [m 7 0,o 8 (.bin .mul (c (n 2)) (t 7)),o 9 (.bin .shl (c (n 1)) (t 8)),m 2 9],.ret]),[(.t 2)]⟩:zaa)=y}).1
def k103:zaa:=(⟨_,by first|(simp only[nf];exact rfl)|rfl⟩:{y//(⟨12,(q [r [M 4 E],r [m 5 0,m 6 0,o 7 (.lenS (t 6)),m 8 1,v 9 .sub 7 8,o 10 (.mx
 (t 9) [(c (n 0))]),o 11 (.slS (t 5) (some (t 10)) none),m 4 11],.ret]),[(.t 4)]⟩:zaa)=y}).1
def b104_0:zae:=(⟨_,by first|(simp only[nf];exact rfl)|rfl⟩:{y//(q [r [v 22 .lss 21 20],k 22 .skip (.exit 0),.block 1 (q [r [m 23 21,m 4 23],
 r [m 24 3,o 25 (.nck (t 24)),f 26 1 25,l 27 26,m 28 4,e 29 1 27 28,O (.st (t 29) (c (n (-1))))]]),r [u 30 .add 21 1,m 21 30]])=y}).1
def k104:zaa:=(⟨_,by first|(simp only[nf];exact rfl)|rfl⟩:{y//(⟨50,(q [r [M 2 P],r [m 5 0,m 6 0,o 7 (.lenS (t 6)),o 8 (.mn (t 7) [(c (n 2000))]),
 o 9 (.slS (t 5) none (some (t 8))),o 10 (.build [(.string (bs [])),(.slice none 0 0),(.slice none 0 0),(.slice none 0 0)] [(0,(1,(t 9)))]),o 11
 (.box 199 (t 10)),m 3 11],r [m 12 3,o 13 (.mks 3 [(.int .i64 0)] 8 (c (n 1024)) (c (n 1024))),o 14 (.nck (t 12)),f 15 1 14,O (.st (t 15) (t 13))],
 q [r [m 16 3,o 17 (.nck (t 16)),f 18 1 17,l 19 18,L 20 19,M 21 (n 0)],.block 0 (.loop b104_0)],r [m 31 3,m 32 3,m 33 3,o 34 (.nck (t 33)),f 35 0 34,
 l 36 35,o 37 (.lenS (t 36)),m 39 3,o 40 (.nck (t 39)),f 41 0 40,l 42 41,o 43 (.lenS (t 42)),o 38 (.mks 3 [(.int .i64 0)] 8 (t 37) (t 37)),
 (.chk 42 none (.ld (t 41))),o 45 (.nck (t 31)),f 46 2 45,O (.st (t 46) (t 38)),o 44 (.mks 4 [(.bool false)] 1 (t 43) (t 43)),(.chk 36 none (.ld
 (t 35))),o 47 (.nck (t 32)),f 48 3 47,O (.st (t 48) (t 44))],r [m 49 3,m 2 49],.ret]),[(.t 2)]⟩:zaa)=y}).1
def k105:zaa:=(⟨_,by first|(simp only[nf];exact rfl)|rfl⟩:{y//(⟨48,(q [r [M 4 F],q [r [m 6 0,m 7 1,C 8 144 [(t 6),(t 7)],o 9 (.un .not (t 8)),
 m 10 9,h 11 10 false 0,g 12 10 false (.nck (t 11)),g 13 10 false (.fad 3 (t 12)),g 14 10 false (.ld (t 13)),h 15 10 false 1,g 16 10 false (.iad 1
 (t 14) (t 15)),g 17 10 false (.ld (t 16)),p 18 10 17],k 18 (q [r [M 4 F],.ret]) .skip],r [m 19 0,m 20 1,C 21 145 [(t 19),(t 20)],m 5 21],r [m 22 0,
 o 23 (.nck (t 22)),f 24 2 23,l 25 24,m 26 1,m 27 0,o 28 (.nck (t 27)),f 29 3 28,l 30 29,m 31 1,m 32 0,o 33 (.nck (t 32)),f 34 1 33,l 35 34,m 36 5,
 e 37 1 35 36,l 38 37,e 39 1 25 26,O (.st (t 39) (t 38)),e 40 1 30 31,O (.st (t 40) (c T))],r [m 41 0,o 42 (.nck (t 41)),f 43 1 42,l 44 43,m 45 5,
 m 46 1,e 47 1 44 45,O (.st (t 47) (t 46))],r [M 4 T],.ret]),[(.t 4)]⟩:zaa)=y}).1
def b106_0:zae:=(⟨_,by first|(simp only[nf];exact rfl)|rfl⟩:{y//(q [q [r [m 37 11,u 38 .neq 37 (-1),m 39 38,h 40 39 true 2,g 41 39 true (.bin .gtr
 (t 40) (c (n 0))),a 42 39 41],k 42 .skip (.exit 0)],.block 1 (q [q [r [m 50 0,o 51 (.nck (t 50)),f 52 0 51,l 53 52,m 54 11,m 55 11,u 56 .add 55 3,
 o 57 (.slS (t 53) (some (t 54)) (some (t 56))),m 58 10,v 59 .neq 57 58],k 59 (.exit 1) .skip],r [m 60 2,u 61 .sub 60 1,m 2 61],q [r [m 62 11,m 63 1,
 v 64 .geq 62 63],k 64 (.exit 1) .skip],r [m 65 0,o 66 (.nck (t 65)),f 67 0 66,l 68 67,m 69 11,m 70 1,C 71 146 [(t 68),(t 69),(t 70)],m 12 71],
 r [m 72 12,m 73 9,v 74 .gtr 72 73,m 75 74,h 76 75 false 12,h 77 75 false 9,g 78 75 false (.bin .eql (t 76) (t 77)),h 79 75 false 78,h 80 79 true 1,
 h 81 79 true 11,g 82 79 true (.bin .sub (t 80) (t 81)),h 83 79 true 8,g 84 79 true (.bin .lss (t 82) (t 83)),g 85 75 false (.pick (t 79) (t 84)
 (c F)),p 86 75 85],k 86 (r [m 87 1,m 88 11,v 89 .sub 87 88,m 90 12,m 8 89,m 9 90]) .skip]),r [m 43 0,o 44 (.nck (t 43)),f 45 2 44,l 46 45,m 47 11,
 e 48 1 46 47,l 49 48,m 11 49]])=y}).1
def k106:zaa:=(⟨_,by first|(simp only[nf];exact rfl)|rfl⟩:{y//(⟨93,(q [r [M 6 (n 0),M 7 (n 0)],q [r [m 13 0,m 14 1,C 15 144 [(t 13),(t 14)],o 16
 (.un .not (t 15))],k 16 (q [r [M 6 (n 0),M 7 (n 0)],.ret]) .skip],r [m 17 2,o 18 (.mx (t 17) [(c (n 0))]),o 19 (.mn (t 18) [(c (n 1000))]),m 2 19],
 r [M 8 (n 0),M 9 (n 0)],r [m 20 0,o 21 (.nck (t 20)),f 22 0 21,l 23 22,m 24 1,m 25 1,u 26 .add 25 3,o 27 (.slS (t 23) (some (t 24)) (some (t 26))),
 m 10 27],q [r [m 28 0,o 29 (.nck (t 28)),f 30 1 29,l 31 30,m 32 0,m 33 1,C 34 145 [(t 32),(t 33)],(.chk 31 none (.ld (t 30))),e 35 1 31 34,l 36 35,
 m 11 36],.block 0 (.loop b106_0)],r [m 91 8,m 92 9,m 6 91,m 7 92],.ret]),[(.t 6),(.t 7)]⟩:zaa)=y}).1
def b111_0:zae:=(⟨_,by first|(simp only[nf];exact rfl)|rfl⟩:{y//(q [q [r [m 16 2,u 17 .gtr 16 0],k 17 .skip (.exit 0)],.block 1 (q [r [m 18 0,o 19
 (.nck (t 18)),f 20 1 19,l 21 20,u 22 .and 21 7,m 7 22],q [r [m 23 7,u 24 .eql 23 0],k 24 (r [m 25 0,m 26 0,o 27 (.nck (t 26)),f 28 0 27,l 29 28,o 30
 (.bsl 5 1 [(.int .u8 0)] [(0,(1,(c (.int .u8 0))))]),o 31 (.app 5 1 1 (t 29) (t 30)),o 32 (.nck (t 25)),f 33 0 32,O (.st (t 33) (t 31))]) .skip],
 r [m 34 2,m 35 7,o 36 (.bin .sub (c (n 8)) (t 35)),o 37 (.mn (t 34) [(t 36)]),m 8 37],r [m 38 0,o 39 (.nck (t 38)),f 40 0 39,l 41 40,m 42 0,o 43
 (.nck (t 42)),f 44 0 43,l 45 44,L 46 45,u 47 .sub 46 1,e 48 1 41 47,l 49 48,m 50 1,m 51 8,o 52 (.bin .shl (c (.int .u32 1)) (t 51)),o 53 (.bin .sub
 (t 52) (c (.int .u32 1))),v 54 .and 50 53,o 55 (.cvt .u8 (t 54)),m 56 7,v 57 .shl 55 56,v 58 .or 49 57,e 59 1 41 47,O (.st (t 59) (t 58))],r [m 60 1,
 m 61 8,v 62 .shr 60 61,m 1 62],r [m 63 0,o 64 (.nck (t 63)),f 65 1 64,l 66 65,m 67 8,v 68 .add 66 67,o 69 (.nck (t 63)),f 70 1 69,O (.st (t 70)
 (t 68))],r [m 71 2,m 72 8,v 73 .sub 71 72,m 2 73]])])=y}).1
def k111:zaa:=(⟨_,by first|(simp only[nf];exact rfl)|rfl⟩:{y//(⟨74,(q [r [M 6 F],q [r [m 9 0,o 10 (.eqv .ptr false (t 9) (c P)),m 11 10,
 h 12 11 false 2,g 13 11 false (.call 149 [(t 12)]),g 14 11 false (.un .not (t 13)),p 15 11 14],k 15 (q [r [M 6 F],.ret]) .skip],.block 0
 (.loop b111_0),r [M 6 T],.ret]),[(.t 6)]⟩:zaa)=y}).1
def k113:zaa:=(⟨_,by first|(simp only[nf];exact rfl)|rfl⟩:{y//(⟨10,(q [r [M 2 Z],q [r [m 3 0,o 4 (.eqv .ptr false (t 3) (c P))],k 4 (q [r [M 2 Z],
 .ret]) .skip],r [m 5 0,o 6 (.nck (t 5)),f 7 0 6,l 8 7,o 9 (.app 5 1 1 (c Z) (t 8)),m 2 9],.ret]),[(.t 2)]⟩:zaa)=y}).1
def k114:zaa:=(⟨_,by first|(simp only[nf];exact rfl)|rfl⟩:{y//(⟨14,(q [r [M 2 F],r [m 3 0,o 4 (.bin .neq (t 3) (c E)),m 5 4,h 6 5 true 0,
 h 7 5 true 0,g 8 5 true (.slS (t 7) none (some (c (n 1)))),h 9 5 true 0,g 10 5 true (.lenS (t 9)),g 11 5 true (.call 84 [(t 8),(t 10)]),g 12 5 true
 (.bin .eql (t 6) (t 11)),a 13 5 12,m 2 13],.ret]),[(.t 2)]⟩:zaa)=y}).1
def k115:zaa:=(⟨_,by first|(simp only[nf];exact rfl)|rfl⟩:{y//(⟨12,(q [r [M 4 P],r [o 5 (.alloc 99 [(.slice none 0 0)])],r [m 6 0,o 7 (.cvt .u64
 (t 6)),C 8 81 [(t 5),(t 7),(c (n 1))],m 9 1,o 10 (.cvt .u64 (t 9)),C 11 64 [(t 8),(t 10)],m 4 11],.ret]),[(.t 4)]⟩:zaa)=y}).1
def k116:zaa:=(⟨_,by first|(simp only[nf];exact rfl)|rfl⟩:{y//(⟨9,(q [r [M 2 E],r [m 3 0,o 4 (.lenS (t 3)),C 5 115 [(c (n 0)),(t 4)],m 6 0,
 C 7 50 [(t 5),(t 6)],C 8 51 [(t 7)],m 2 8],.ret]),[(.t 2)]⟩:zaa)=y}).1
def k117:zaa:=(⟨_,by first|(simp only[nf];exact rfl)|rfl⟩:{y//(⟨39,(q [r [M 2 E,M 3 F],r [m 10 0,o 11 (.s2b 5 (t 10)),C 12 155 [(t 11)],
 C 13 154 [(t 12)],m 9 13,x 14 9 0,x 15 9 1,m 4 14,m 5 15],q [r [m 16 5,o 17 (.un .not (t 16))],k 17 (q [r [M 2 E,M 3 F],.ret]) .skip],r [m 19 4,
 C 20 156 [(t 19)],m 18 20,x 21 18 0,x 22 18 1,m 6 21,m 7 22],r [m 24 4,m 25 0,o 26 (.s2b 5 (t 25)),C 27 157 [(t 24),(t 26)],m 23 27,x 28 23 0,
 x 29 23 1,m 8 28,m 5 29],r [m 30 0,o 31 (.lenS (t 30)),C 32 115 [(c (n 2)),(t 31)],m 33 6,C 34 50 [(t 32),(t 33)],m 35 8,C 36 65 [(t 34),(t 35)],
 C 37 51 [(t 36)],m 38 5,m 2 37,m 3 38],.ret]),[(.t 2),(.t 3)]⟩:zaa)=y}).1
def k118:zaa:=(⟨_,by first|(simp only[nf];exact rfl)|rfl⟩:{y//(⟨20,(q [r [o 2 (.box 113 (t 0)),o 4 (.alloc 113 [(.int .u64 0),(.int .u64 0)])],
 r [f 6 0 2,l 7 6,m 8 1,o 9 (.cvt .u64 (t 8)),v 10 .xor 7 9,o 11 (.bin .mul (t 10) (c (N 11400714819323198485))),m 5 11],r [m 12 5,m 13 5,o 14
 (.bin .shr (t 13) (c (N 29))),v 15 .xor 12 14,f 16 1 2,l 17 16,o 18 (.bin .add (t 17) (c (N 1))),o 19 (.build [(.int .u64 0),(.int .u64 0)] [(0,(1,
 (t 15))),(1,(1,(t 18)))]),O (.stn 2 (t 4) (t 19))],.ret]),[(.cn 4 2)]⟩:zaa)=y}).1
def k119:zaa:=(⟨_,by first|(simp only[nf];exact rfl)|rfl⟩:{y//(⟨6,(q [r [M 2 (n 0)],r [m 3 0,o 4 (.mx (t 3) [(c (n 0))]),o 5 (.mn (t 4) [(c
 (n 8))]),m 2 5],.ret]),[(.t 2)]⟩:zaa)=y}).1
def b132_0:zae:=(⟨_,by first|(simp only[nf];exact rfl)|rfl⟩:{y//(q [q [r [m 5 4,m 6 0,v 7 .lss 5 6],k 7 .skip (.exit 0)],.block 1 (r [m 10 3,
 u 11 .mul 10 2,m 3 11]),r [m 8 4,u 9 .add 8 1,m 4 9]])=y}).1
def k132:zaa:=(⟨_,by first|(simp only[nf];exact rfl)|rfl⟩:{y//(⟨13,(q [r [M 2 (n 0)],r [M 3 (n 1)],q [r [M 4 (n 0)],.block 0 (.loop b132_0)],
 r [m 12 3,m 2 12],.ret]),[(.t 2)]⟩:zaa)=y}).1
def b138_0:zae:=(⟨_,by first|(simp only[nf];exact rfl)|rfl⟩:{y//(q [q [r [m 9 3,u 10 .geq 9 0],k 10 .skip (.exit 0)],.block 1 (r [m 13 0,m 14 3,
 m 15 2,C 16 175 [(t 13),(t 14),(t 15)]]),r [m 11 3,u 12 .sub 11 1,m 3 12]])=y}).1
def k138:zaa:=(⟨_,by first|(simp only[nf];exact rfl)|rfl⟩:{y//(⟨17,(q [r [m 4 0,o 5 (.inv (t 4) "Len" []),m 2 5],r [m 6 2,u 7 .quo 6 2,u 8 .sub 7 1,
 m 3 8],.block 0 (.loop b138_0)]),[]⟩:zaa)=y}).1
def k140:zaa:=(⟨_,by first|(simp only[nf];exact rfl)|rfl⟩:{y//(⟨15,(q [r [M 2 .nilIface],r [m 4 0,o 5 (.inv (t 4) "Len" []),u 6 .sub 5 1,m 3 6],
 r [m 7 0,m 8 3,o 9 (.inv (t 7) "Swap" [(c (n 0)),(t 8)])],r [m 10 0,m 11 3,C 12 175 [(t 10),(c (n 0)),(t 11)]],r [m 13 0,o 14 (.inv (t 13) "Pop" []),
 m 2 14],.ret]),[(.t 2)]⟩:zaa)=y}).1
def k141:zaa:=(⟨_,by first|(simp only[nf];exact rfl)|rfl⟩:{y//(⟨12,(q [r [m 4 0,m 5 1,o 6 (.inv (t 4) "Push" [(t 5)])],r [m 7 0,m 8 0,o 9 (.inv
 (t 8) "Len" []),u 10 .sub 9 1,C 11 176 [(t 7),(t 10)]]]),[]⟩:zaa)=y}).1
def k144:zaa:=(⟨_,by first|(simp only[nf];exact rfl)|rfl⟩:{y//(⟨14,(q [r [M 4 F],r [m 5 1,u 6 .geq 5 0,m 7 6,h 8 7 true 1,h 9 7 true 0,g 10 7 true
 (.call 179 [(t 9)]),g 11 7 true (.bin .sub (t 10) (c (n 3))),g 12 7 true (.bin .leq (t 8) (t 11)),a 13 7 12,m 4 13],.ret]),[(.t 4)]⟩:zaa)=y}).1
def k145:zaa:=(⟨_,by first|(simp only[nf];exact rfl)|rfl⟩:{y//(⟨32,(q [r [M 4 (n 0)],r [m 7 0,o 8 (.nck (t 7)),f 9 0 8,l 10 9,m 11 1,m 12 1,
 u 13 .add 12 3,o 14 (.slS (t 10) (some (t 11)) (some (t 13))),m 5 14],r [m 15 5,o 16 (.idS (t 15) (c (n 0))),o 17 (.cvt .u32 (t 16)),m 18 5,o 19
 (.idS (t 18) (c (n 1))),o 20 (.cvt .u32 (t 19)),o 21 (.bin .shl (t 20) (c (N 8))),v 22 .or 17 21,m 23 5,o 24 (.idS (t 23) (c (n 2))),o 25 (.cvt .u32
 (t 24)),o 26 (.bin .shl (t 25) (c (N 16))),v 27 .or 22 26,m 6 27],r [m 28 6,o 29 (.bin .mul (t 28) (c (.int .u32 2654435761))),o 30 (.bin .shr
 (t 29) (c (N 22))),o 31 (.cvt .i64 (t 30)),m 4 31],.ret]),[(.t 4)]⟩:zaa)=y}).1
def k149:zaa:=(⟨_,by first|(simp only[nf];exact rfl)|rfl⟩:{y//(⟨9,(q [r [M 2 F],r [m 3 0,u 4 .geq 3 0,m 5 4,h 6 5 true 0,g 7 5 true (.bin .leq
 (t 6) (c (n 32))),a 8 5 7,m 2 8],.ret]),[(.t 2)]⟩:zaa)=y}).1
def k154:zaa:=(⟨_,by first|(simp only[nf];exact rfl)|rfl⟩:{y//(⟨39,(q [r [M 2 Z,M 3 F],q [r [m 8 0,C 9 189 [(t 8)],o 10 (.un .not (t 9))],k 10
 (q [r [M 2 Z,M 3 F],.ret]) .skip],r [m 12 0,C 13 190 [(t 12)],m 11 13,x 14 11 0,x 15 11 1,m 4 14,m 5 15],r [m 16 0,L 17 16,o 18
 (.mks 3 [(.int .i64 0)] 8 (t 17) (t 17)),o 6 (.alloc 105 [(.slice none 0 0)]),O (.st (t 6) (t 18))],q [r [m 19 4,o 20 (.nck (t 19)),f 21 2 20,
 l 22 21,u 23 .geq 22 0],k 23 (q [r [l 24 6,m 25 4,o 26 (.nck (t 25)),f 27 2 26,l 28 27,e 29 1 24 28,O (.st (t 29) (c (n 1)))],r [l 30 6,m 2 30,
 M 3 T],.ret]) .skip],r [o 7 (.alloc 3 [(.int .i64 0)]),O (.st (t 7) (c (n 0)))],r [m 31 4,o 32 (.mkf (.func 192) [] [(t 6),(t 7)]),C 33 191 [(t 31),
 (c (n 0)),(t 32)]],q [r [l 34 7,u 35 .gtr 34 11],k 35 (q [r [m 36 0,C 37 193 [(t 36)],m 2 37,M 3 T],.ret]) .skip],r [l 38 6,m 2 38,M 3 T],.ret]),
 [(.t 2),(.t 3)]⟩:zaa)=y}).1
def b155_1:zae:=(⟨_,by first|(simp only[nf];exact rfl)|rfl⟩:{y//(q [q [r [m 12 3,L 13 12,m 14 5,o 15 (.cvt .i64 (t 14)),v 16 .leq 13 15],k 16 .skip
 (.exit 2)],.block 3 (r [m 17 3,o 18 (.bsl 3 1 [(.int .i64 0)] [(0,(1,(c (n 0))))]),o 19 (.app 3 1 8 (t 17) (t 18)),m 3 19])])=y}).1
def b155_0:zae:=(⟨_,by first|(simp only[nf];exact rfl)|rfl⟩:{y//(q [r [v 9 .lss 8 7],k 9 .skip (.exit 0),.block 1 (q [r [e 10 1 6 8,l 11 10,m 5 11],
 .block 2 (.loop b155_1),r [m 20 3,m 21 5,e 22 1 20 21,l 23 22,u 24 .add 23 1,e 25 1 20 21,O (.st (t 25) (t 24))]]),r [u 26 .add 8 1,m 8 26]])=y}).1
def k155:zaa:=(⟨_,by first|(simp only[nf];exact rfl)|rfl⟩:{y//(⟨28,(q [r [M 2 Z],r [M 3 Z],q [r [m 6 0,L 7 6,M 8 (n 0)],.block 0 (.loop b155_0)],
 r [m 27 3,m 2 27],.ret]),[(.t 2)]⟩:zaa)=y}).1
def b156_0:zae:=(⟨_,by first|(simp only[nf];exact rfl)|rfl⟩:{y//(q [q [r [m 18 6,m 19 4,L 20 19,v 21 .lss 18 20],k 21 .skip (.exit 0)],.block 1
 (q [r [m 24 4,m 25 6,e 26 1 24 25,l 27 26,o 28 (.cvt .u8 (t 27)),m 7 28],q [r [m 29 6,u 30 .add 29 1,m 31 4,L 32 31,v 33 .lss 30 32],k 33 (r [m 34 7,
 m 35 4,m 36 6,u 37 .add 36 1,e 38 1 35 37,l 39 38,o 40 (.cvt .u8 (t 39)),o 41 (.bin .shl (t 40) (c (N 4))),v 42 .or 34 41,m 7 42]) .skip],r [m 43 5,
 m 44 7,o 45 (.bsl 5 1 [(.int .u8 0)] [(0,(1,(t 44)))]),o 46 (.app 5 1 1 (t 43) (t 45)),m 5 46]]),r [m 22 6,u 23 .add 22 2,m 6 23]])=y}).1
def k156:zaa:=(⟨_,by first|(simp only[nf];exact rfl)|rfl⟩:{y//(⟨49,(q [r [M 2 E,M 3 F],q [r [m 8 0,C 9 194 [(t 8)],o 10 (.un .not (t 9))],k 10
 (q [r [M 2 E,M 3 F],.ret]) .skip],r [m 11 0,C 12 195 [(t 11)],m 4 12],r [m 13 4,L 14 13,u 15 .sub 14 1,o 16 (.cvt .u8 (t 15)),o 17
 (.bsl 5 1 [(.int .u8 0)] [(0,(1,(t 16)))]),m 5 17],q [r [M 6 (n 0)],.block 0 (.loop b156_0)],r [m 47 5,o 48 (.b2s 5 (t 47)),m 2 48,M 3 T],.ret]),
 [(.t 2),(.t 3)]⟩:zaa)=y}).1
def b157_0:zae:=(⟨_,by first|(simp only[nf];exact rfl)|rfl⟩:{y//(q [r [v 21 .lss 20 19],k 21 .skip (.exit 0),.block 1 (q [r [e 22 1 18 20,l 23 22,
 m 10 23],q [r [m 24 10,o 25 (.cvt .i64 (t 24)),m 26 0,L 27 26,v 28 .geq 25 27,m 29 28,h 30 29 false 0,h 31 29 false 10,g 32 29 false (.iad 1 (t 30)
 (t 31)),g 33 29 false (.ld (t 32)),g 34 29 false (.bin .eql (t 33) (c (n 0))),p 35 29 34],k 35 (q [r [M 4 E,M 5 F],.ret]) .skip],r [m 36 6,m 37 10,
 e 38 1 36 37,l 39 38,m 40 0,m 41 10,e 42 1 40 41,l 43 42,m 45 0,m 46 10,e 47 1 45 46,l 48 47,C 44 197 [(t 39),(t 43)],(.chk 48 none (.ld (t 47))),
 C 49 111 [(t 8),(t 44),(t 48)]]]),r [u 50 .add 20 1,m 20 50]])=y}).1
def k157:zaa:=(⟨_,by first|(simp only[nf];exact rfl)|rfl⟩:{y//(⟨53,(q [r [M 4 E,M 5 F],r [m 12 0,C 13 196 [(t 12)],m 11 13,x 14 11 0,x 15 11 1,
 m 6 14,m 7 15],q [r [m 16 7,o 17 (.un .not (t 16))],k 17 (q [r [M 4 E,M 5 F],.ret]) .skip],r [o 8 (.alloc 158 [(.slice none 0 0),(.int .i64 0)])],
 q [r [m 18 1,L 19 18,M 20 (n 0)],.block 0 (.loop b157_0)],r [C 51 113 [(t 8)],o 52 (.b2s 5 (t 51)),m 4 52,M 5 T],.ret]),[(.t 4),
 (.t 5)]⟩:zaa)=y}).1
def b175_0:zae:=(⟨_,by first|(simp only[nf];exact rfl)|rfl⟩:{y//(.block 1 (q [r [m 12 7,o 13 (.bin .mul (c (n 2)) (t 12)),u 14 .add 13 1,m 8 14],
 q [r [m 15 8,m 16 2,v 17 .geq 15 16,m 18 17,h 19 18 false 8,g 20 18 false (.bin .lss (t 19) (c (n 0))),p 21 18 20],k 21 (.exit 0) .skip],r [m 22 8,
 m 9 22],q [r [m 23 8,u 24 .add 23 1,m 10 24],r [m 25 10,m 26 2,v 27 .lss 25 26,m 28 27,h 29 28 true 0,h 30 28 true 10,h 31 28 true 8,g 32 28 true
 (.inv (t 29) "Less" [(t 30),(t 31)]),a 33 28 32],k 33 (r [m 34 10,m 9 34]) .skip],q [r [m 35 0,m 36 9,m 37 7,o 38 (.inv (t 35) "Less" [(t 36),
 (t 37)]),o 39 (.un .not (t 38))],k 39 (.exit 0) .skip],r [m 40 0,m 41 7,m 42 9,o 43 (.inv (t 40) "Swap" [(t 41),(t 42)])],r [m 44 9,m 7 44]]))=y}).1
def k175:zaa:=(⟨_,by first|(simp only[nf];exact rfl)|rfl⟩:{y//(⟨48,(q [r [M 6 F],r [m 11 1,m 7 11],.block 0 (.loop b175_0),r [m 45 7,m 46 1,
 v 47 .gtr 45 46,m 6 47],.ret]),[(.t 6)]⟩:zaa)=y}).1
def b176_0:zae:=(⟨_,by first|(simp only[nf];exact rfl)|rfl⟩:{y//(.block 1 (q [r [m 5 1,u 6 .sub 5 1,u 7 .quo 6 2,m 4 7],q [r [m 8 4,m 9 1,
 v 10 .eql 8 9,m 11 10,h 12 11 false 0,h 13 11 false 1,h 14 11 false 4,g 15 11 false (.inv (t 12) "Less" [(t 13),(t 14)]),g 16 11 false (.un .not
 (t 15)),p 17 11 16],k 17 (.exit 0) .skip],r [m 18 0,m 19 4,m 20 1,o 21 (.inv (t 18) "Swap" [(t 19),(t 20)])],r [m 22 4,m 1 22]]))=y}).1
def k176:zaa:=(⟨_,by first|(simp only[nf];exact rfl)|rfl⟩:{y//(⟨23,(.block 0 (.loop b176_0)),[]⟩:zaa)=y}).1
def k179:zaa:=(⟨_,by first|(simp only[nf];exact rfl)|rfl⟩:{y//(⟨10,(q [r [M 2 (n 0)],q [r [m 3 0,o 4 (.eqv .ptr false (t 3) (c P))],k 4 (q [r [M 2
 (n 0)],.ret]) .skip],r [m 5 0,o 6 (.nck (t 5)),f 7 0 6,l 8 7,o 9 (.lenS (t 8)),m 2 9],.ret]),[(.t 2)]⟩:zaa)=y}).1
def b189_0:zae:=(⟨_,by first|(simp only[nf];exact rfl)|rfl⟩:{y//(q [r [v 11 .lss 10 9],k 11 .skip (.exit 0),.block 1 (q [r [e 12 1 8 10,l 13 12,
 m 4 13],r [m 14 4,u 15 .lss 14 0,m 16 15,h 17 16 false 4,g 18 16 false (.bin .gtr (t 17) (c (n 1048576))),p 19 16 18],k 19 (q [r [M 2 F],
 .ret]) .skip]),r [u 20 .add 10 1,m 10 20]])=y}).1
def k189:zaa:=(⟨_,by first|(simp only[nf];exact rfl)|rfl⟩:{y//(⟨24,(q [r [M 2 F],q [r [m 5 0,L 6 5,u 7 .gtr 6 256],k 7 (q [r [M 2 F],.ret]) .skip],
 q [r [m 8 0,L 9 8,M 10 (n 0)],.block 0 (.loop b189_0)],r [m 21 0,C 22 217 [(t 21)],u 23 .gtr 22 0,m 2 23],.ret]),[(.t 2)]⟩:zaa)=y}).1
def b190_1:zae:=(⟨_,by first|(simp only[nf];exact rfl)|rfl⟩:{y//(q [r [v 17 .lss 16 15],k 17 .skip (.exit 0),.block 1 (q [r [m 18 16,e 19 1 14 16,
 l 20 19,m 5 18,m 6 20],r [m 21 6,u 22 .gtr 21 0],k 22 (r [m 23 4,m 24 4,o 25 (.nck (t 24)),l 26 25,m 27 6,m 28 5,m 29 5,o 30 (.build [(.int .i64 0),
 (.int .i64 0),(.int .i64 0),(.pointer none),(.pointer none)] [(0,(1,(t 27))),(1,(1,(t 28))),(2,(1,(t 29)))]),o 31 (.box 256 (t 30)),o 32
 (.bsl 252 1 [(.pointer none)] [(0,(1,(t 31)))]),o 33 (.app 252 1 8 (t 26) (t 32)),o 34 (.nck (t 23)),O (.st (t 34) (t 33))]) .skip]),
 r [u 35 .add 16 1,m 16 35]])=y}).1
def b190_0:zae:=(⟨_,by first|(simp only[nf];exact rfl)|rfl⟩:{y//(q [q [r [m 39 4,o 40 (.nck (t 39)),l 41 40,C 42 229 [(t 41)],u 43 .gtr 42 1],
 k 43 .skip (.exit 2)],.block 3 (q [r [m 46 4,C 47 230 [(t 46)],m 48 4,C 49 230 [(t 48)],m 9 47,m 10 49],r [m 50 9,o 51 (.nck (t 50)),f 52 0 51,
 l 53 52,m 54 10,o 55 (.nck (t 54)),f 56 0 55,l 57 56,v 58 .add 53 57,m 59 8,m 60 9,m 61 10,o 62 (.build [(.int .i64 0),(.int .i64 0),(.int .i64 0),
 (.pointer none),(.pointer none)] [(0,(1,(t 58))),(1,(1,(t 59))),(2,(1,(c (n (-1))))),(3,(1,(t 60))),(4,(1,(t 61)))]),o 63 (.box 256 (t 62)),m 11 63],
 r [m 64 7,m 65 11,o 66 (.nck (t 65)),f 67 0 66,l 68 67,v 69 .add 64 68,m 7 69],r [m 70 4,o 71 (.mki 285 (t 70)),m 72 11,o 73 (.mki 252 (t 72)),
 C 74 141 [(t 71),(t 73)]]]),r [m 44 8,u 45 .add 44 1,m 8 45]])=y}).1
def k190:zaa:=(⟨_,by first|(simp only[nf];exact rfl)|rfl⟩:{y//(⟨78,(q [r [M 2 P,M 3 (n 0)],r [o 12 (.bsl 252 0 [] []),o 13 (.box 287 (t 12)),
 m 4 13],q [r [m 14 0,L 15 14,M 16 (n 0)],.block 0 (.loop b190_1)],r [m 36 4,o 37 (.mki 285 (t 36)),C 38 138 [(t 37)]],r [M 7 (n 0)],q [r [M 8
 (n 256)],.block 2 (.loop b190_0)],r [m 75 4,C 76 230 [(t 75)],m 77 7,m 2 76,m 3 77],.ret]),[(.t 2),(.t 3)]⟩:zaa)=y}).1
def k191:zaa:=(⟨_,by first|(simp only[nf];exact rfl)|rfl⟩:{y//(⟨34,(q [q [r [m 6 0,o 7 (.nck (t 6)),f 8 2 7,l 9 8,u 10 .geq 9 0],k 10 (q [r [m 11 2,
 m 12 0,o 13 (.nck (t 12)),f 14 2 13,l 15 14,m 16 1,o 17 (.callv (t 11) [(t 15),(t 16)])],.ret]) .skip],r [m 18 0,o 19 (.nck (t 18)),f 20 3 19,
 l 21 20,m 22 1,u 23 .add 22 1,m 24 2,C 25 191 [(t 21),(t 23),(t 24)]],r [m 26 0,o 27 (.nck (t 26)),f 28 4 27,l 29 28,m 30 1,u 31 .add 30 1,m 32 2,
 C 33 191 [(t 29),(t 31),(t 32)]]]),[]⟩:zaa)=y}).1
def k192:zaa:=(⟨_,by first|(simp only[nf];exact rfl)|rfl⟩:{y//(⟨13,(q [r [l 6 2,m 7 0,m 8 1,e 9 1 6 7,O (.st (t 9) (t 8))],r [l 10 3,m 11 1,o 12
 (.mx (t 10) [(t 11)]),O (.st (t 3) (t 12))]]),[]⟩:zaa)=y}).1
def b194_0:zae:=(⟨_,by first|(simp only[nf];exact rfl)|rfl⟩:{y//(q [r [v 14 .lss 13 12],k 14 .skip (.exit 0),.block 1 (q [r [e 15 1 11 13,l 16 15,
 m 7 16],r [m 17 7,u 18 .gtr 17 0],k 18 (q [r [m 19 3,m 20 7,o 21 (.bin .sub (c (n 11)) (t 20)),o 22 (.bin .shl (c (n 1)) (t 21)),v 23 .sub 19 22,
 m 3 23],r [m 24 4,u 25 .add 24 1,m 4 25],r [m 26 7,u 27 .eql 26 1,m 5 27]]) .skip]),r [u 28 .add 13 1,m 13 28]])=y}).1
def k194:zaa:=(⟨_,by first|(simp only[nf];exact rfl)|rfl⟩:{y//(⟨38,(q [r [M 2 F],q [r [m 8 0,C 9 234 [(t 8)],o 10 (.un .not (t 9))],k 10
 (q [r [M 2 F],.ret]) .skip],r [M 3 (n 2048),M 4 (n 0),M 5 F],q [r [m 11 0,L 12 11,M 13 (n 0)],.block 0 (.loop b194_0)],r [m 29 3,u 30 .eql 29 0,
 m 31 30,h 32 31 false 4,g 33 31 false (.bin .eql (t 32) (c (n 1))),h 34 31 false 33,h 35 34 true 5,g 36 31 false (.pick (t 34) (t 35) (c F)),
 p 37 31 36,m 2 37],.ret]),[(.t 2)]⟩:zaa)=y}).1
def b195_0:zae:=(⟨_,by first|(simp only[nf];exact rfl)|rfl⟩:{y//(q [q [r [m 6 3,u 7 .gtr 6 0,m 8 7,h 9 8 true 0,h 10 8 true 3,g 11 8 true
 (.bin .sub (t 10) (c (n 1))),g 12 8 true (.iad 1 (t 9) (t 11)),g 13 8 true (.ld (t 12)),g 14 8 true (.bin .eql (t 13) (c (n 0))),a 15 8 14],
 k 15 .skip (.exit 0)],.block 1 (r [m 16 3,u 17 .sub 16 1,m 3 17])])=y}).1
def k195:zaa:=(⟨_,by first|(simp only[nf];exact rfl)|rfl⟩:{y//(⟨21,(q [r [M 2 Z],r [m 4 0,L 5 4,m 3 5],.block 0 (.loop b195_0),r [m 18 0,m 19 3,
 o 20 (.slc 3 1 (t 18) none (some (t 19))),m 2 20],.ret]),[(.t 2)]⟩:zaa)=y}).1
def b196_1:zae:=(⟨_,by first|(simp only[nf];exact rfl)|rfl⟩:{y//(q [r [v 22 .lss 21 20],k 22 .skip (.exit 2),.block 3 (q [r [m 23 21,e 24 1 19 21,
 l 25 24,m 7 23,m 8 25],r [m 26 8,m 27 6,v 28 .eql 26 27],k 28 (q [r [m 29 4,m 30 7,m 31 5,e 32 1 29 30,O (.st (t 32) (t 31))],r [m 33 5,
 u 34 .add 33 1,m 5 34]]) .skip]),r [u 35 .add 21 1,m 21 35]])=y}).1
def b196_0:zae:=(⟨_,by first|(simp only[nf];exact rfl)|rfl⟩:{y//(q [q [r [m 15 6,u 16 .leq 15 11],k 16 .skip (.exit 0)],.block 1 (q [q [r [m 19 0,
 L 20 19,M 21 (n 0)],.block 2 (.loop b196_1)],r [m 36 5,o 37 (.bin .shl (t 36) (c (N 1))),m 5 37]]),r [m 17 6,u 18 .add 17 1,m 6 18]])=y}).1
def k196:zaa:=(⟨_,by first|(simp only[nf];exact rfl)|rfl⟩:{y//(⟨39,(q [r [M 2 Z,M 3 F],q [r [m 9 0,C 10 194 [(t 9)],o 11 (.un .not (t 10))],k 11
 (q [r [M 2 Z,M 3 F],.ret]) .skip],r [m 12 0,L 13 12,o 14 (.mks 3 [(.int .i64 0)] 8 (t 13) (t 13)),m 4 14],r [M 5 (n 0)],q [r [M 6 (n 1)],.block 0
 (.loop b196_0)],r [m 38 4,m 2 38,M 3 T],.ret]),[(.t 2),(.t 3)]⟩:zaa)=y}).1
def b197_0:zae:=(⟨_,by first|(simp only[nf];exact rfl)|rfl⟩:{y//(q [r [v 8 .lss 7 6],k 8 .skip (.exit 0),.block 1 (q [r [m 9 5,o 10 (.bin .shl
 (t 9) (c (N 1))),m 11 0,u 12 .and 11 1,o 13 (.cvt .u32 (t 12)),v 14 .or 10 13,m 5 14],r [m 15 0,o 16 (.bin .shr (t 15) (c (N 1))),m 0 16]]),
 r [u 17 .add 7 1,m 7 17]])=y}).1
def k197:zaa:=(⟨_,by first|(simp only[nf];exact rfl)|rfl⟩:{y//(⟨19,(q [r [M 4 (.int .u32 0)],r [M 5 (.int .u32 0)],q [r [m 6 1,M 7 (n 0)],.block 0
 (.loop b197_0)],r [m 18 5,m 4 18],.ret]),[(.t 4)]⟩:zaa)=y}).1
def b209_0:zae:=(⟨_,by first|(simp only[nf];exact rfl)|rfl⟩:{y//(q [q [r [m 4 3,m 5 0,L 6 5,v 7 .lss 4 6],k 7 .skip (.exit 0)],.block 1
 (q [r [m 10 0,m 11 3,e 12 1 10 11,l 13 12,u 14 .lss 13 0,m 15 14,h 16 15 false 0,h 17 15 false 3,g 18 15 false (.iad 1 (t 16) (t 17)),g 19 15 false
 (.ld (t 18)),g 20 15 false (.bin .gtr (t 19) (c (n 11))),p 21 15 20],k 21 (q [r [M 2 F],.ret]) .skip]),r [m 8 3,u 9 .add 8 1,m 3 9]])=y}).1
def k209:zaa:=(⟨_,by first|(simp only[nf];exact rfl)|rfl⟩:{y//(⟨25,(q [r [M 2 F],q [r [M 3 (n 0)],.block 0 (.loop b209_0)],r [m 22 0,L 23 22,
 u 24 .leq 23 256,m 2 24],.ret]),[(.t 2)]⟩:zaa)=y}).1
def b217_0:zae:=(⟨_,by first|(simp only[nf];exact rfl)|rfl⟩:{y//(q [r [v 9 .lss 8 7],k 9 .skip (.exit 0),.block 1 (q [r [e 10 1 6 8,l 11 10,m 5 11],
 r [m 12 3,m 13 5,v 14 .add 12 13,m 3 14]]),r [u 15 .add 8 1,m 8 15]])=y}).1
def k217:zaa:=(⟨_,by first|(simp only[nf];exact rfl)|rfl⟩:{y//(⟨17,(q [r [M 2 (n 0)],r [M 3 (n 0)],q [r [m 6 0,L 7 6,M 8 (n 0)],.block 0
 (.loop b217_0)],r [m 16 3,m 2 16],.ret]),[(.t 2)]⟩:zaa)=y}).1
def k229:zaa:=(⟨_,by first|(simp only[nf];exact rfl)|rfl⟩:{y//(⟨5,(q [r [M 2 (n 0)],r [m 3 0,L 4 3,m 2 4],.ret]),[(.t 2)]⟩:zaa)=y}).1
def k230:zaa:=(⟨_,by first|(simp only[nf];exact rfl)|rfl⟩:{y//(⟨13,(q [r [M 2 P],r [m 6 0,o 7 (.mki 285 (t 6)),C 8 140 [(t 7)],o 9 (.tas 252
 (.pointer none) true (t 8)),m 5 9,x 10 5 0,x 11 5 1,m 3 10,m 4 11],r [m 12 3,m 2 12],.ret]),[(.t 2)]⟩:zaa)=y}).1
def k233:zaa:=(⟨_,by first|(simp only[nf];exact rfl)|rfl⟩:{y//(⟨20,(q [r [M 4 (n 0)],r [m 7 0,C 8 249 [(t 7)],m 5 8],r [m 9 1,C 10 249 [(t 9)],
 m 6 10],q [r [m 11 5],k 11 (q [q [r [m 12 6],k 12 (q [r [M 4 (n 0)],.ret]) .skip],r [M 4 (n (-1))],.ret]) .skip],q [r [m 13 6],k 13 (q [r [M 4
 (n 1)],.ret]) .skip],q [r [m 14 0,m 15 1,v 16 .lss 14 15],k 16 (q [r [M 4 (n (-1))],.ret]) .skip],q [r [m 17 0,m 18 1,v 19 .gtr 17 18],k 19
 (q [r [M 4 (n 1)],.ret]) .skip],r [M 4 (n 0)],.ret]),[(.t 4)]⟩:zaa)=y}).1
def b234_0:zae:=(⟨_,by first|(simp only[nf];exact rfl)|rfl⟩:{y//(q [r [v 8 .lss 7 6],k 8 .skip (.exit 0),.block 1 (q [r [e 9 1 5 7,l 10 9,m 4 10],
 r [m 11 4,u 12 .lss 11 0,m 13 12,h 14 13 false 4,g 15 13 false (.bin .gtr (t 14) (c (n 11))),p 16 13 15],k 16 (q [r [M 2 F],.ret]) .skip]),
 r [u 17 .add 7 1,m 7 17]])=y}).1
def k234:zaa:=(⟨_,by first|(simp only[nf];exact rfl)|rfl⟩:{y//(⟨21,(q [r [M 2 F],q [r [m 5 0,L 6 5,M 7 (n 0)],.block 0 (.loop b234_0)],r [m 18 0,
 L 19 18,u 20 .leq 19 256,m 2 20],.ret]),[(.t 2)]⟩:zaa)=y}).1
def k249:zaa:=(⟨_,by first|(simp only[nf];exact rfl)|rfl⟩:{y//(⟨6,(q [r [M 2 F],r [m 3 0,m 4 0,v 5 .neq 3 4,m 2 5],.ret]),[(.t 2)]⟩:zaa)=y}).1
def b283_0:zae:=(⟨_,by first|(simp only[nf];exact rfl)|rfl⟩:{y//(q [r [v 9 .lss 8 7],k 9 .skip (.exit 0),.block 1 (q [r [e 10 1 6 8,l 11 10,m 5 11],
 r [m 12 5,m 13 3,v 14 .neq 12 13],k 14 (q [r [m 15 5,m 2 15],.ret]) .skip]),r [u 16 .add 8 1,m 8 16]])=y}).1
def k283:zaa:=(⟨_,by first|(simp only[nf];exact rfl)|rfl⟩:{y//(⟨18,(q [r [M 2 (n 0)],r [M 3 (n 0)],q [r [m 6 0,L 7 6,M 8 (n 0)],.block 0
 (.loop b283_0)],r [m 17 3,m 2 17],.ret]),[(.t 2)]⟩:zaa)=y}).1
def k285:zaa:=(⟨_,by first|(simp only[nf];exact rfl)|rfl⟩:{y//(⟨40,(q [r [M 6 F],r [m 7 0,m 8 1,e 9 1 7 8,l 10 9,o 11 (.nck (t 10)),f 12 0 11,
 l 13 12,m 14 0,m 15 2,e 16 1 14 15,l 17 16,o 18 (.nck (t 17)),f 19 0 18,l 20 19,m 22 0,m 23 1,e 24 1 22 23,l 25 24,o 26 (.nck (t 25)),f 27 1 26,
 l 28 27,m 29 0,m 30 2,e 31 1 29 30,l 32 31,o 33 (.nck (t 32)),f 34 1 33,l 35 34,C 21 233 [(t 13),(t 20)],(.chk 25 none (.ld (t 24))),(.chk 28 none
 (.ld (t 27))),(.chk 32 none (.ld (t 31))),(.chk 35 none (.ld (t 34))),C 36 233 [(t 28),(t 35)],o 37 (.bsl 3 2 [(.int .i64 0),(.int .i64 0)] [(0,(1,
 (t 21))),(1,(1,(t 36)))]),C 38 283 [(t 37)],u 39 .lss 38 0,m 6 39],.ret]),[(.t 6)]⟩:zaa)=y}).1
def k286:zaa:=(⟨_,by first|(simp only[nf];exact rfl)|rfl⟩:{y//(⟨25,(q [r [M 2 .nilIface],r [m 5 0,o 6 (.nck (t 5)),l 7 6,L 8 7,u 9 .sub 8 1,m 3 9],
 r [m 10 0,o 11 (.nck (t 10)),l 12 11,m 13 3,e 14 1 12 13,l 15 14,m 4 15],r [m 16 0,m 17 0,o 18 (.nck (t 17)),l 19 18,m 20 3,o 21 (.slc 252 1
 (t 19) none (some (t 20))),o 22 (.nck (t 16)),O (.st (t 22) (t 21))],r [m 23 4,o 24 (.mki 252 (t 23)),m 2 24],.ret]),[(.t 2)]⟩:zaa)=y}).1
def k287:zaa:=(⟨_,by first|(simp only[nf];exact rfl)|rfl⟩:{y//(⟨20,(q [r [m 7 1,o 8 (.tas 252 (.pointer none) true (t 7)),m 6 8,x 9 6 0,x 10 6 1,
 m 4 9,m 5 10],r [m 11 5],k 11 (r [m 12 0,m 13 0,o 14 (.nck (t 13)),l 15 14,m 16 4,o 17 (.bsl 252 1 [(.pointer none)] [(0,(1,(t 16)))]),o 18
 (.app 252 1 8 (t 15) (t 17)),o 19 (.nck (t 12)),O (.st (t 19) (t 18))]) .skip]),[]⟩:zaa)=y}).1
def k288:zaa:=(⟨_,by first|(simp only[nf];exact rfl)|rfl⟩:{y//(⟨20,(r [m 6 0,m 7 1,m 8 0,m 9 2,m 10 0,m 11 2,e 12 1 10 11,l 13 12,m 14 0,m 15 1,
 e 16 1 14 15,l 17 16,e 18 1 6 7,O (.st (t 18) (t 13)),e 19 1 8 9,O (.st (t 19) (t 17))]),[]⟩:zaa)=y}).1
end
def OK (i:FuncId) (k:zaa):Prop:=zbk Go.Proofs.Tryz.prog i=true∧∃fn,Go.Proofs.Tryz.prog.funcs[i]?=some fn∧zfB Go.Proofs.Tryz.prog fn=some k
theorem c13:OK 13 k13:=⟨by kernel_rfl,Tryz.f13,Tryz.func13,by kernel_rfl⟩
theorem c15:OK 15 k15:=⟨by kernel_rfl,Tryz.f15,Tryz.func15,by kernel_rfl⟩
theorem c16:OK 16 k16:=⟨by kernel_rfl,Tryz.f16,Tryz.func16,by kernel_rfl⟩
theorem c30:OK 30 k30:=⟨by kernel_rfl,Tryz.f30,Tryz.func30,by kernel_rfl⟩
theorem c37:OK 37 k37:=⟨by kernel_rfl,Tryz.f37,Tryz.func37,by kernel_rfl⟩
theorem c38:OK 38 k38:=⟨by kernel_rfl,Tryz.f38,Tryz.func38,by kernel_rfl⟩
theorem c39:OK 39 k39:=⟨by kernel_rfl,Tryz.f39,Tryz.func39,by kernel_rfl⟩
theorem c40:OK 40 k40:=⟨by kernel_rfl,Tryz.f40,Tryz.func40,by kernel_rfl⟩
theorem c43:OK 43 k43:=⟨by kernel_rfl,Tryz.f43,Tryz.func43,by kernel_rfl⟩
theorem c44:OK 44 k44:=⟨by kernel_rfl,Tryz.f44,Tryz.func44,by kernel_rfl⟩
theorem c46:OK 46 k46:=⟨by kernel_rfl,Tryz.f46,Tryz.func46,by kernel_rfl⟩
theorem c47:OK 47 k47:=⟨by kernel_rfl,Tryz.f47,Tryz.func47,by kernel_rfl⟩
theorem c48:OK 48 k48:=⟨by kernel_rfl,Tryz.f48,Tryz.func48,by kernel_rfl⟩
theorem c49:OK 49 k49:=⟨by kernel_rfl,Tryz.f49,Tryz.func49,by kernel_rfl⟩
theorem c50:OK 50 k50:=⟨by kernel_rfl,Tryz.f50,Tryz.func50,by kernel_rfl⟩
theorem c51:OK 51 k51:=⟨by kernel_rfl,Tryz.f51,Tryz.func51,by kernel_rfl⟩
theorem c52:OK 52 k52:=⟨by kernel_rfl,Tryz.f52,Tryz.func52,by kernel_rfl⟩
theorem c53:OK 53 k53:=⟨by kernel_rfl,Tryz.f53,Tryz.func53,by kernel_rfl⟩
theorem c54:OK 54 k54:=⟨by kernel_rfl,Tryz.f54,Tryz.func54,by kernel_rfl⟩
theorem c60:OK 60 k60:=⟨by kernel_rfl,Tryz.f60,Tryz.func60,by kernel_rfl⟩
theorem c61:OK 61 k61:=⟨by kernel_rfl,Tryz.f61,Tryz.func61,by kernel_rfl⟩
theorem c63:OK 63 k63:=⟨by kernel_rfl,Tryz.f63,Tryz.func63,by kernel_rfl⟩
theorem c64:OK 64 k64:=⟨by kernel_rfl,Tryz.f64,Tryz.func64,by kernel_rfl⟩
theorem c65:OK 65 k65:=⟨by kernel_rfl,Tryz.f65,Tryz.func65,by kernel_rfl⟩
theorem c70:OK 70 k70:=⟨by kernel_rfl,Tryz.f70,Tryz.func70,by kernel_rfl⟩
theorem c71:OK 71 k71:=⟨by kernel_rfl,Tryz.f71,Tryz.func71,by kernel_rfl⟩
theorem c72:OK 72 k72:=⟨by kernel_rfl,Tryz.f72,Tryz.func72,by kernel_rfl⟩
theorem c73:OK 73 k73:=⟨by kernel_rfl,Tryz.f73,Tryz.func73,by kernel_rfl⟩
theorem c74:OK 74 k74:=⟨by kernel_rfl,Tryz.f74,Tryz.func74,by kernel_rfl⟩
theorem c75:OK 75 k75:=⟨by kernel_rfl,Tryz.f75,Tryz.func75,by kernel_rfl⟩
theorem c76:OK 76 k76:=⟨by kernel_rfl,Tryz.f76,Tryz.func76,by kernel_rfl⟩
theorem c78:OK 78 k78:=⟨by kernel_rfl,Tryz.f78,Tryz.func78,by kernel_rfl⟩
theorem c79:OK 79 k79:=⟨by kernel_rfl,Tryz.f79,Tryz.func79,by kernel_rfl⟩
theorem c80:OK 80 k80:=⟨by kernel_rfl,Tryz.f80,Tryz.func80,by kernel_rfl⟩
theorem c81:OK 81 k81:=⟨by kernel_rfl,Tryz.f81,Tryz.func81,by kernel_rfl⟩
theorem c82:OK 82 k82:=⟨by kernel_rfl,Tryz.f82,Tryz.func82,by kernel_rfl⟩
theorem c83:OK 83 k83:=⟨by kernel_rfl,Tryz.f83,Tryz.func83,by kernel_rfl⟩
theorem c89:OK 89 k89:=⟨by kernel_rfl,Tryz.f89,Tryz.func89,by kernel_rfl⟩
theorem c101:OK 101 k101:=⟨by kernel_rfl,Tryz.f101,Tryz.func101,by kernel_rfl⟩
theorem c102:OK 102 k102:=⟨by kernel_rfl,Tryz.f102,Tryz.func102,by kernel_rfl⟩
theorem c103:OK 103 k103:=⟨by kernel_rfl,Tryz.f103,Tryz.func103,by kernel_rfl⟩
theorem c104:OK 104 k104:=⟨by kernel_rfl,Tryz.f104,Tryz.func104,by kernel_rfl⟩
theorem c105:OK 105 k105:=⟨by kernel_rfl,Tryz.f105,Tryz.func105,by kernel_rfl⟩
theorem c106:OK 106 k106:=⟨by kernel_rfl,Tryz.f106,Tryz.func106,by kernel_rfl⟩
theorem c111:OK 111 k111:=⟨by kernel_rfl,Tryz.f111,Tryz.func111,by kernel_rfl⟩
theorem c113:OK 113 k113:=⟨by kernel_rfl,Tryz.f113,Tryz.func113,by kernel_rfl⟩
theorem c114:OK 114 k114:=⟨by kernel_rfl,Tryz.f114,Tryz.func114,by kernel_rfl⟩
theorem c115:OK 115 k115:=⟨by kernel_rfl,Tryz.f115,Tryz.func115,by kernel_rfl⟩
theorem c116:OK 116 k116:=⟨by kernel_rfl,Tryz.f116,Tryz.func116,by kernel_rfl⟩
theorem c117:OK 117 k117:=⟨by kernel_rfl,Tryz.f117,Tryz.func117,by kernel_rfl⟩
theorem c118:OK 118 k118:=⟨by kernel_rfl,Tryz.f118,Tryz.func118,by kernel_rfl⟩
theorem c119:OK 119 k119:=⟨by kernel_rfl,Tryz.f119,Tryz.func119,by kernel_rfl⟩
theorem c132:OK 132 k132:=⟨by kernel_rfl,Tryz.f132,Tryz.func132,by kernel_rfl⟩
theorem c138:OK 138 k138:=⟨by kernel_rfl,Tryz.f138,Tryz.func138,by kernel_rfl⟩
theorem c140:OK 140 k140:=⟨by kernel_rfl,Tryz.f140,Tryz.func140,by kernel_rfl⟩
theorem c141:OK 141 k141:=⟨by kernel_rfl,Tryz.f141,Tryz.func141,by kernel_rfl⟩
theorem c144:OK 144 k144:=⟨by kernel_rfl,Tryz.f144,Tryz.func144,by kernel_rfl⟩
theorem c145:OK 145 k145:=⟨by kernel_rfl,Tryz.f145,Tryz.func145,by kernel_rfl⟩
theorem c149:OK 149 k149:=⟨by kernel_rfl,Tryz.f149,Tryz.func149,by kernel_rfl⟩
theorem c154:OK 154 k154:=⟨by kernel_rfl,Tryz.f154,Tryz.func154,by kernel_rfl⟩
theorem c155:OK 155 k155:=⟨by kernel_rfl,Tryz.f155,Tryz.func155,by kernel_rfl⟩
theorem c156:OK 156 k156:=⟨by kernel_rfl,Tryz.f156,Tryz.func156,by kernel_rfl⟩
theorem c157:OK 157 k157:=⟨by kernel_rfl,Tryz.f157,Tryz.func157,by kernel_rfl⟩
theorem c175:OK 175 k175:=⟨by kernel_rfl,Tryz.f175,Tryz.func175,by kernel_rfl⟩
theorem c176:OK 176 k176:=⟨by kernel_rfl,Tryz.f176,Tryz.func176,by kernel_rfl⟩
theorem c179:OK 179 k179:=⟨by kernel_rfl,Tryz.f179,Tryz.func179,by kernel_rfl⟩
theorem c189:OK 189 k189:=⟨by kernel_rfl,Tryz.f189,Tryz.func189,by kernel_rfl⟩
theorem c190:OK 190 k190:=⟨by kernel_rfl,Tryz.f190,Tryz.func190,by kernel_rfl⟩
theorem c191:OK 191 k191:=⟨by kernel_rfl,Tryz.f191,Tryz.func191,by kernel_rfl⟩
theorem c192:OK 192 k192:=⟨by kernel_rfl,Tryz.f192,Tryz.func192,by kernel_rfl⟩
theorem c194:OK 194 k194:=⟨by kernel_rfl,Tryz.f194,Tryz.func194,by kernel_rfl⟩
theorem c195:OK 195 k195:=⟨by kernel_rfl,Tryz.f195,Tryz.func195,by kernel_rfl⟩
theorem c196:OK 196 k196:=⟨by kernel_rfl,Tryz.f196,Tryz.func196,by kernel_rfl⟩
theorem c197:OK 197 k197:=⟨by kernel_rfl,Tryz.f197,Tryz.func197,by kernel_rfl⟩
theorem c209:OK 209 k209:=⟨by kernel_rfl,Tryz.f209,Tryz.func209,by kernel_rfl⟩
theorem c217:OK 217 k217:=⟨by kernel_rfl,Tryz.f217,Tryz.func217,by kernel_rfl⟩
theorem c229:OK 229 k229:=⟨by kernel_rfl,Tryz.f229,Tryz.func229,by kernel_rfl⟩
theorem c230:OK 230 k230:=⟨by kernel_rfl,Tryz.f230,Tryz.func230,by kernel_rfl⟩
theorem c233:OK 233 k233:=⟨by kernel_rfl,Tryz.f233,Tryz.func233,by kernel_rfl⟩
theorem c234:OK 234 k234:=⟨by kernel_rfl,Tryz.f234,Tryz.func234,by kernel_rfl⟩
theorem c249:OK 249 k249:=⟨by kernel_rfl,Tryz.f249,Tryz.func249,by kernel_rfl⟩
theorem c283:OK 283 k283:=⟨by kernel_rfl,Tryz.f283,Tryz.func283,by kernel_rfl⟩
theorem c285:OK 285 k285:=⟨by kernel_rfl,Tryz.f285,Tryz.func285,by kernel_rfl⟩
theorem c286:OK 286 k286:=⟨by kernel_rfl,Tryz.f286,Tryz.func286,by kernel_rfl⟩
theorem c287:OK 287 k287:=⟨by kernel_rfl,Tryz.f287,Tryz.func287,by kernel_rfl⟩
theorem c288:OK 288 k288:=⟨by kernel_rfl,Tryz.f288,Tryz.func288,by kernel_rfl⟩
def fnc0:FuncId→Option zaa
 |13=>some k13
 |15=>some k15
 |16=>some k16
 |30=>some k30
 |37=>some k37
 |38=>some k38
 |39=>some k39
 |40=>some k40
 |43=>some k43
 |44=>some k44
 |46=>some k46
 |47=>some k47
 |48=>some k48
 |49=>some k49
 |50=>some k50
 |51=>some k51
 |52=>some k52
 |53=>some k53
 |54=>some k54
 |60=>some k60
 |61=>some k61
 |63=>some k63
 |64=>some k64
 |65=>some k65
 |70=>some k70
 |71=>some k71
 |72=>some k72
 |73=>some k73
 |74=>some k74
 |75=>some k75
 |76=>some k76
 |78=>some k78
 |_=>none
def fnc1:FuncId→Option zaa
 |79=>some k79
 |80=>some k80
 |81=>some k81
 |82=>some k82
 |83=>some k83
 |89=>some k89
 |101=>some k101
 |102=>some k102
 |103=>some k103
 |104=>some k104
 |105=>some k105
 |106=>some k106
 |111=>some k111
 |113=>some k113
 |114=>some k114
 |115=>some k115
 |116=>some k116
 |117=>some k117
 |118=>some k118
 |119=>some k119
 |132=>some k132
 |138=>some k138
 |140=>some k140
 |141=>some k141
 |144=>some k144
 |145=>some k145
 |149=>some k149
 |154=>some k154
 |155=>some k155
 |156=>some k156
 |157=>some k157
 |175=>some k175
 |_=>none
def fnc2:FuncId→Option zaa
 |176=>some k176
 |179=>some k179
 |189=>some k189
 |190=>some k190
 |191=>some k191
 |192=>some k192
 |194=>some k194
 |195=>some k195
 |196=>some k196
 |197=>some k197
 |209=>some k209
 |217=>some k217
 |229=>some k229
 |230=>some k230
 |233=>some k233
 |234=>some k234
 |249=>some k249
 |283=>some k283
 |285=>some k285
 |286=>some k286
 |287=>some k287
 |288=>some k288
 |_=>none
def F (f:FuncId):Option zaa:=
 if f< 79 then fnc0 f else
 if f< 176 then fnc1 f else
 fnc2 f
def M:TypeId→String→Option (FuncId×Recv)
 |285, "Len"=>some (229,.ld)
 |285, "Less"=>some (285,.ld)
 |285, "Swap"=>some (288,.ld)
 |285, "Pop"=>some (286,.as)
 |285, "Push"=>some (287,.as)
 |133, "Len"=>some (139,.ld)
 |133, "Less"=>some (279,.ld)
 |133, "Swap"=>some (282,.ld)
 |133, "Pop"=>some (280,.as)
 |133, "Push"=>some (281,.as)
 |_,_=>none
theorem fnc0_ok:∀f k,fnc0 f=some k→OK f k:=by
 intro f k h
 unfold fnc0 at h
 split at h
 ·cases h;exact c13
 ·cases h;exact c15
 ·cases h;exact c16
 ·cases h;exact c30
 ·cases h;exact c37
 ·cases h;exact c38
 ·cases h;exact c39
 ·cases h;exact c40
 ·cases h;exact c43
 ·cases h;exact c44
 ·cases h;exact c46
 ·cases h;exact c47
 ·cases h;exact c48
 ·cases h;exact c49
 ·cases h;exact c50
 ·cases h;exact c51
 ·cases h;exact c52
 ·cases h;exact c53
 ·cases h;exact c54
 ·cases h;exact c60
 ·cases h;exact c61
 ·cases h;exact c63
 ·cases h;exact c64
 ·cases h;exact c65
 ·cases h;exact c70
 ·cases h;exact c71
 ·cases h;exact c72
 ·cases h;exact c73
 ·cases h;exact c74
 ·cases h;exact c75
 ·cases h;exact c76
 ·cases h;exact c78
 ·cases h
theorem fnc1_ok:∀f k,fnc1 f=some k→OK f k:=by
 intro f k h
 unfold fnc1 at h
 split at h
 ·cases h;exact c79
 ·cases h;exact c80
 ·cases h;exact c81
 ·cases h;exact c82
 ·cases h;exact c83
 ·cases h;exact c89
 ·cases h;exact c101
 ·cases h;exact c102
 ·cases h;exact c103
 ·cases h;exact c104
 ·cases h;exact c105
 ·cases h;exact c106
 ·cases h;exact c111
 ·cases h;exact c113
 ·cases h;exact c114
 ·cases h;exact c115
 ·cases h;exact c116
 ·cases h;exact c117
 ·cases h;exact c118
 ·cases h;exact c119
 ·cases h;exact c132
 ·cases h;exact c138
 ·cases h;exact c140
 ·cases h;exact c141
 ·cases h;exact c144
 ·cases h;exact c145
 ·cases h;exact c149
 ·cases h;exact c154
 ·cases h;exact c155
 ·cases h;exact c156
 ·cases h;exact c157
 ·cases h;exact c175
 ·cases h
theorem fnc2_ok:∀f k,fnc2 f=some k→OK f k:=by
 intro f k h
 unfold fnc2 at h
 split at h
 ·cases h;exact c176
 ·cases h;exact c179
 ·cases h;exact c189
 ·cases h;exact c190
 ·cases h;exact c191
 ·cases h;exact c192
 ·cases h;exact c194
 ·cases h;exact c195
 ·cases h;exact c196
 ·cases h;exact c197
 ·cases h;exact c209
 ·cases h;exact c217
 ·cases h;exact c229
 ·cases h;exact c230
 ·cases h;exact c233
 ·cases h;exact c234
 ·cases h;exact c249
 ·cases h;exact c283
 ·cases h;exact c285
 ·cases h;exact c286
 ·cases h;exact c287
 ·cases h;exact c288
 ·cases h
theorem zjo:∀f k,F f=some k→zbk Go.Proofs.Tryz.prog f=true∧∃fn,Go.Proofs.Tryz.prog.funcs[f]?=some fn∧zfB Go.Proofs.Tryz.prog fn=some k:=by
 intro f k h
 unfold F at h
 by_cases h0:f<79
 ·rw [if_pos h0] at h;exact fnc0_ok f k h
 rw [if_neg h0] at h
 by_cases h1:f<176
 ·rw [if_pos h1] at h;exact fnc1_ok f k h
 rw [if_neg h1] at h
 exact fnc2_ok f k h
theorem zjp:∀t n f r,M t n=some (f,r)→zdV Go.Proofs.Tryz.prog t n f r=true:=by
 intro t n f r h
 unfold M at h
 split at h
 ·cases h;kernel_rfl
 ·cases h;kernel_rfl
 ·cases h;kernel_rfl
 ·cases h;kernel_rfl
 ·cases h;kernel_rfl
 ·cases h;kernel_rfl
 ·cases h;kernel_rfl
 ·cases h;kernel_rfl
 ·cases h;kernel_rfl
 ·cases h;kernel_rfl
 ·cases h
def s13_1 (S:Sys) (e:Fe) (H:Heap) (Q:Kx):Prop:=(⟨_,by
 simp only[b13_1,w1,sub,List.map,Option.map,↓reduceIte,Nat.reduceEqDiff]
 exact rfl⟩:Yb b13_1 S e H Q).1
theorem h13_1 (S:Sys) (e:Fe) (H:Heap) (Q:Kx):wpC S b13_1 e H Q=s13_1 S e H Q:=@Subtype.property Prop (fun p=>wpC S b13_1 e H Q=p) _
def l13_1 (S:Sys) {Q:Kx}:=@WLi b13_1 s13_1 h13_1 S Q
def s13_0 (S:Sys) (e:Fe) (H:Heap) (Q:Kx):Prop:=(⟨_,by
 simp only[b13_0,w1,sub,List.map,Option.map,↓reduceIte,Nat.reduceEqDiff]
 exact rfl⟩:Yb b13_0 S e H Q).1
theorem h13_0 (S:Sys) (e:Fe) (H:Heap) (Q:Kx):wpC S b13_0 e H Q=s13_0 S e H Q:=@Subtype.property Prop (fun p=>wpC S b13_0 e H Q=p) _
def l13_0 (S:Sys) {Q:Kx}:=@WLi b13_0 s13_0 h13_0 S Q
def s13 (S:Sys) (a0 a1:Value) (H:Heap) (R:Kv):Prop:=(⟨_,by
 simp only[k13,w1,sub,List.map,Option.map,↓reduceIte,Nat.reduceEqDiff]
 exact rfl⟩:Yw k13 S [a0,a1] H R).1
theorem w13 {S:Sys} (x:S.R 13=none) (y:S.F 13=some k13) (a0 a1:Value) {H:Heap} {R:Kv} (h:s13 S a0 a1 H R):Wf S 13 [a0,a1] H R:=Wz x y (@Subtype.property Prop (fun p=>wpC S k13.body _ H _=p) _) h
def s39_0 (S:Sys) (e:Fe) (H:Heap) (Q:Kx):Prop:=(⟨_,by
 simp only[b39_0,w1,sub,List.map,Option.map,↓reduceIte,Nat.reduceEqDiff]
 exact rfl⟩:Yb b39_0 S e H Q).1
theorem h39_0 (S:Sys) (e:Fe) (H:Heap) (Q:Kx):wpC S b39_0 e H Q=s39_0 S e H Q:=@Subtype.property Prop (fun p=>wpC S b39_0 e H Q=p) _
def l39_0 (S:Sys) {Q:Kx}:=@WLi b39_0 s39_0 h39_0 S Q
def s39 (S:Sys) (a0:Value) (H:Heap) (R:Kv):Prop:=(⟨_,by
 simp only[k39,w1,sub,List.map,Option.map,↓reduceIte,Nat.reduceEqDiff]
 exact rfl⟩:Yw k39 S [a0] H R).1
theorem w39 {S:Sys} (x:S.R 39=none) (y:S.F 39=some k39) (a0:Value) {H:Heap} {R:Kv} (h:s39 S a0 H R):Wf S 39 [a0] H R:=Wz x y (@Subtype.property Prop (fun p=>wpC S k39.body _ H _=p) _) h
def s44_0 (S:Sys) (e:Fe) (H:Heap) (Q:Kx):Prop:=(⟨_,by
 simp only[b44_0,w1,sub,List.map,Option.map,↓reduceIte,Nat.reduceEqDiff]
 exact rfl⟩:Yb b44_0 S e H Q).1
theorem h44_0 (S:Sys) (e:Fe) (H:Heap) (Q:Kx):wpC S b44_0 e H Q=s44_0 S e H Q:=@Subtype.property Prop (fun p=>wpC S b44_0 e H Q=p) _
def l44_0 (S:Sys) {Q:Kx}:=@WLi b44_0 s44_0 h44_0 S Q
def s44 (S:Sys) (a0 a1:Value) (H:Heap) (R:Kv):Prop:=(⟨_,by
 simp only[k44,w1,sub,List.map,Option.map,↓reduceIte,Nat.reduceEqDiff]
 exact rfl⟩:Yw k44 S [a0,a1] H R).1
theorem w44 {S:Sys} (x:S.R 44=none) (y:S.F 44=some k44) (a0 a1:Value) {H:Heap} {R:Kv} (h:s44 S a0 a1 H R):Wf S 44 [a0,a1] H R:=Wz x y (@Subtype.property Prop (fun p=>wpC S k44.body _ H _=p) _) h
def s46_0 (S:Sys) (e:Fe) (H:Heap) (Q:Kx):Prop:=(⟨_,by
 simp only[b46_0,w1,sub,List.map,Option.map,↓reduceIte,Nat.reduceEqDiff]
 exact rfl⟩:Yb b46_0 S e H Q).1
theorem h46_0 (S:Sys) (e:Fe) (H:Heap) (Q:Kx):wpC S b46_0 e H Q=s46_0 S e H Q:=@Subtype.property Prop (fun p=>wpC S b46_0 e H Q=p) _
def l46_0 (S:Sys) {Q:Kx}:=@WLi b46_0 s46_0 h46_0 S Q
def s46 (S:Sys) (a0 a1:Value) (H:Heap) (R:Kv):Prop:=(⟨_,by
 simp only[k46,w1,sub,List.map,Option.map,↓reduceIte,Nat.reduceEqDiff]
 exact rfl⟩:Yw k46 S [a0,a1] H R).1
theorem w46 {S:Sys} (x:S.R 46=none) (y:S.F 46=some k46) (a0 a1:Value) {H:Heap} {R:Kv} (h:s46 S a0 a1 H R):Wf S 46 [a0,a1] H R:=Wz x y (@Subtype.property Prop (fun p=>wpC S k46.body _ H _=p) _) h
def s70_0 (S:Sys) (e:Fe) (H:Heap) (Q:Kx):Prop:=(⟨_,by
 simp only[b70_0,w1,sub,List.map,Option.map,↓reduceIte,Nat.reduceEqDiff]
 exact rfl⟩:Yb b70_0 S e H Q).1
theorem h70_0 (S:Sys) (e:Fe) (H:Heap) (Q:Kx):wpC S b70_0 e H Q=s70_0 S e H Q:=@Subtype.property Prop (fun p=>wpC S b70_0 e H Q=p) _
def l70_0 (S:Sys) {Q:Kx}:=@WLi b70_0 s70_0 h70_0 S Q
def s70 (S:Sys) (a0:Value) (H:Heap) (R:Kv):Prop:=(⟨_,by
 simp only[k70,w1,sub,List.map,Option.map,↓reduceIte,Nat.reduceEqDiff]
 exact rfl⟩:Yw k70 S [a0] H R).1
theorem w70 {S:Sys} (x:S.R 70=none) (y:S.F 70=some k70) (a0:Value) {H:Heap} {R:Kv} (h:s70 S a0 H R):Wf S 70 [a0] H R:=Wz x y (@Subtype.property Prop (fun p=>wpC S k70.body _ H _=p) _) h
def s104_0 (S:Sys) (e:Fe) (H:Heap) (Q:Kx):Prop:=(⟨_,by
 simp only[b104_0,w1,sub,List.map,Option.map,↓reduceIte,Nat.reduceEqDiff]
 exact rfl⟩:Yb b104_0 S e H Q).1
theorem h104_0 (S:Sys) (e:Fe) (H:Heap) (Q:Kx):wpC S b104_0 e H Q=s104_0 S e H Q:=@Subtype.property Prop (fun p=>wpC S b104_0 e H Q=p) _
def l104_0 (S:Sys) {Q:Kx}:=@WLi b104_0 s104_0 h104_0 S Q
def s104 (S:Sys) (a0:Value) (H:Heap) (R:Kv):Prop:=(⟨_,by
 simp only[k104,w1,sub,List.map,Option.map,↓reduceIte,Nat.reduceEqDiff]
 exact rfl⟩:Yw k104 S [a0] H R).1
theorem w104 {S:Sys} (x:S.R 104=none) (y:S.F 104=some k104) (a0:Value) {H:Heap} {R:Kv} (h:s104 S a0 H R):Wf S 104 [a0] H R:=Wz x y (@Subtype.property Prop (fun p=>wpC S k104.body _ H _=p) _) h
end Go.Proofs.YtjgpbhodbgjggaaGreat.K
