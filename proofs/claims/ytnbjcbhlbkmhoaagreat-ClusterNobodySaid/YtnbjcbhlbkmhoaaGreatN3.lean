/- A part of the proof of PClusterNobody, made small by a program of this work (mini.py). Conditions: none. -/
import Derived.Test.YtnbjcbhlbkmhoaaGreatProg
import Derived.Test.YtnbjcbhlbkmhoaaGreatN2
set_option linter.defProp false
set_option linter.unusedVariables false
set_option linter.unusedSimpArgs false
set_option maxRecDepth 100000
set_option maxHeartbeats 4000000
namespace Go.Proofs.YtnbjcbhlbkmhoaaGreat.K
open Go Go.Proofs
namespace W
def t (n:Nat):Opd:=.t n
def c (v:Value):Opd:=.c v
def n (k:Int):Value:=.int .i64 k
def N (k:Int):Value:=.int .u64 k
def T:Value:=.bool true
def F:Value:=.bool false
def Z:Value:=.slice none 0 0
def P:Value:=.pointer none
def E:Value:=.string (bs [])
def m (d s:Nat):zac:=.op (some d) none (.mv (.t s))
def M (d:Nat) (v:Value):zac:=.op (some d) none (.mv (.c v))
def v (d:Nat) (b:BinOp) (x y:Nat):zac:=.op (some d) none (.bin b (.t x) (.t y))
def u (d:Nat) (b:BinOp) (x:Nat) (y:Int):zac:=.op (some d) none (.bin b (.t x) (.c (.int .i64 y)))
def C (d:Nat) (f:FuncId) (l:List Opd):zac:=.op (some d) none (.call f l)
def p (d x y:Nat):zac:=.op (some d) none (.pick (.t x) (.c (.bool true)) (.t y))
def a (d x y:Nat):zac:=.op (some d) none (.pick (.t x) (.t y) (.c (.bool false)))
def x (d s i:Nat):zac:=.op (some d) none (.xt (.t s) i)
def l (d s:Nat):zac:=.op (some d) none (.ld (.t s))
def L (d s:Nat):zac:=.op (some d) none (.lenL (.t s))
def f (d n s:Nat):zac:=.op (some d) none (.fad n (.t s))
def e (d z s i:Nat):zac:=.op (some d) none (.iad z (.t s) (.t i))
def o (d:Nat) (k:KOp):zac:=.op (some d) none k
def O (k:KOp):zac:=.op none none k
def g (d s:Nat) (w:Bool) (k:KOp):zac:=.op (some d) (some (s,w)) k
def G (s:Nat) (w:Bool) (k:KOp):zac:=.op none (some (s,w)) k
def h (d s:Nat) (w:Bool) (x:Nat):zac:=.op (some d) (some (s,w)) (.mv (.t x))
def r (l:List zac):zae:=.reg l
def k (s:Nat) (a b:zae):zae:=.cond (.t s) a b
def q:List zae→zae
 | []=>.skip
 | [c]=>c
 |c::d::l=>.seq c (q (d::l))
theorem nf:(∀i,t i=.t i)∧(∀w,c w=.c w)∧(∀i,n i=.int .i64 i)∧(∀i,N i=.int .u64 i)∧(T=.bool true)∧(F=.bool false)∧(Z=.slice none 0 0)∧(P=.pointer none)∧(E=.string (bs []))∧
 (∀d s,m d s=.op (some d) none (.mv (.t s)))∧(∀d w,M d w=.op (some d) none (.mv (.c w)))∧(∀d b x y,v d b x y=.op (some d) none (.bin b (.t x) (.t y)))∧
 (∀d b x y,u d b x y=.op (some d) none (.bin b (.t x) (.c (.int .i64 y))))∧(∀d f l,C d f l=.op (some d) none (.call f l))∧(∀d x y,p d x y=.op (some d) none (.pick (.t x) (.c (.bool true)) (.t y)))∧
 (∀d x y,a d x y=.op (some d) none (.pick (.t x) (.t y) (.c (.bool false))))∧(∀d s i,x d s i=.op (some d) none (.xt (.t s) i))∧(∀d s,l d s=.op (some d) none (.ld (.t s)))∧(∀d s,L d s=.op (some d) none (.lenL (.t s)))∧
 (∀d n s,f d n s=.op (some d) none (.fad n (.t s)))∧(∀d z s i,e d z s i=.op (some d) none (.iad z (.t s) (.t i)))∧(∀d k,o d k=.op (some d) none k)∧(∀k,O k=.op none none k)∧(∀d s w k,g d s w k=.op (some d) (some (s,w)) k)∧
 (∀s w k,G s w k=.op none (some (s,w)) k)∧(∀d s w x,h d s w x=.op (some d) (some (s,w)) (.mv (.t x)))∧(∀l,r l=.reg l)∧(∀s a b,k s a b=.cond (.t s) a b)∧(∀c,q [c]=c)∧(∀c d l,q (c::d::l)=.seq c (q (d::l))):=by
 refine ⟨?_,?_,?_,?_,?_,?_,?_,?_,?_,?_,?_,?_,?_,?_,?_,?_,?_,?_,?_,?_,?_,?_,?_,?_,?_,?_,?_,?_,?_,?_⟩<;>intros<;>rfl
end W
section
open W
def k3:zaa:=(⟨_,by first|(simp only[nf];exact rfl)|rfl⟩:{y//(⟨147,(q [r [o 2 (.box 23 (t 0)),M 4 F],q [r [C 10 4 [],o 11 (.un .not (t 10))],k 11
 (q [r [M 4 F],.ret]) .skip],r [M 5 P],r [o 12 (.build [(.int .i64 0),(.int .i64 0),(.int .i64 0),(.int .i64 0),(.int .i64 0)] [(0,(1,(c (n 2))))]),
 C 13 5 [(t 12)],m 6 13],r [m 14 1,m 7 14],q [r [m 15 1,u 16 .geq 15 1,m 17 16,h 18 17 true 1,g 19 17 true (.bin .leq (t 18) (c (n 2))),a 20 17 19],
 k 20 (r [M 7 (n 0)]) .skip],r [m 22 6,m 23 7,C 24 6 [(t 22),(t 23)],m 21 24,x 25 21 0,x 26 21 1,m 8 25,m 9 26],r [m 27 5,o 28 (.ldn 5 (t 2)),
 C 29 7 [(t 27),(t 28)],u 30 .eql 29 1,m 31 30,h 32 31 true 5,g 33 31 true (.call 8 [(t 32)]),g 34 31 true (.bin .eql (t 33) (c (n 0))),a 35 31 34,
 m 36 35,h 37 36 true 5,g 38 36 true (.call 9 [(t 37)]),g 39 36 true (.bin .eql (t 38) (c (n 0))),a 40 36 39,m 41 40,h 42 41 true 5,g 43 41 true
 (.call 10 [(t 42)]),g 44 41 true (.bin .eql (t 43) (c (n 0))),a 45 41 44,m 46 45,h 47 46 true 5,g 48 46 true (.call 11 [(t 47)]),g 49 46 true (.lenL
 (t 48)),h 50 46 true 5,g 51 46 true (.call 12 [(t 50)]),g 52 46 true (.lenL (t 51)),g 53 46 true (.bin .add (t 49) (t 52)),h 54 46 true 5,
 g 55 46 true (.call 13 [(t 54)]),g 56 46 true (.lenL (t 55)),g 57 46 true (.bin .add (t 53) (t 56)),g 58 46 true (.bin .eql (t 57) (c (n 0))),
 a 59 46 58,m 60 59,h 61 60 true 5,h 62 60 true 1,g 63 60 true (.call 14 [(t 61),(t 62)]),g 64 60 true (.bin .eql (t 63) (c (n 0))),a 65 60 64,
 m 66 65,h 67 66 true 5,h 68 66 true 1,g 69 66 true (.call 15 [(t 67),(t 68)]),g 70 66 true (.bin .eql (t 69) (c (n 0))),a 71 66 70,m 72 71,
 h 73 72 true 5,h 74 72 true 1,g 75 72 true (.call 16 [(t 73),(t 74)]),g 76 72 true (.un .not (t 75)),a 77 72 76,m 78 77,h 79 78 true 6,
 h 80 78 true 7,g 81 78 true (.call 17 [(t 79),(t 80)]),g 82 78 true (.lenL (t 81)),g 83 78 true (.bin .eql (t 82) (c (n 0))),a 84 78 83,m 85 84,
 h 86 85 true 6,h 87 85 true 7,g 88 85 true (.call 18 [(t 86),(t 87)]),g 89 85 true (.bin .eql (t 88) (c (n 0))),a 90 85 89,m 91 90,h 92 91 true 6,
 h 93 91 true 7,g 94 91 true (.call 19 [(t 92),(t 93)]),g 95 91 true (.bin .eql (t 94) (c (n 0))),a 96 91 95,m 97 96,h 98 97 true 6,h 99 97 true 7,
 g 100 97 true (.call 16 [(t 98),(t 99)]),g 101 97 true (.un .not (t 100)),a 102 97 101,m 103 102,h 104 103 true 6,h 105 103 true 7,g 106 103 true
 (.call 20 [(t 104),(t 105)]),g 107 103 true (.bin .eql (t 106) (c (n 0))),a 108 103 107,m 109 108,h 110 109 true 6,h 111 109 true 7,g 112 109 true
 (.call 21 [(t 110),(t 111)]),g 113 109 true (.un .not (t 112)),a 114 109 113,m 115 114,h 116 115 true 6,h 117 115 true 7,g 118 115 true
 (.call 14 [(t 116),(t 117)]),g 119 115 true (.bin .eql (t 118) (c (n 0))),a 120 115 119,m 121 120,h 122 121 true 6,h 123 121 true 7,g 124 121 true
 (.call 15 [(t 122),(t 123)]),g 125 121 true (.bin .eql (t 124) (c (n 0))),a 126 121 125,m 127 126,h 128 127 true 8,g 129 127 true (.bin .eql (t 128)
 (c (n 0))),a 130 127 129,m 131 130,h 132 131 true 9,g 133 131 true (.bin .eql (t 132) (c (n 0))),a 134 131 133,m 135 134,h 136 135 true 6,
 h 137 135 true 7,g 138 135 true (.call 22 [(t 136),(t 137)]),g 139 135 true (.bin .eql (t 138) (c E)),a 140 135 139,m 141 140,h 142 141 true 6,
 h 143 141 true 7,g 144 141 true (.call 23 [(t 142),(t 143)]),g 145 141 true (.bin .eql (t 144) (c E)),a 146 141 145,m 4 146],.ret]),
 [(.t 4)]⟩:zaa)=y}).1
def b4_0:zae:=(⟨_,by first|(simp only[nf];exact rfl)|rfl⟩:{y//(q [r [u 17 .lss 16 8],k 17 .skip (.exit 0),.block 1 (q [r [m 18 1,o 19
 (.build [(.int .i64 0),(.int .i64 0),(.int .i64 0),(.bool false),(.string (bs []))] [(0,(1,(c (n 3)))),(1,(1,(c (n 1))))]),C 20 7 [(t 18),(t 19)]],
 r [m 21 1,o 22 (.build [(.int .i64 0),(.int .i64 0),(.int .i64 0),(.bool false),(.string (bs []))] [(0,(1,(c (n 4)))),(1,(1,(c (n 1)))),(2,(1,(c
 (n 500)))),(3,(1,(c T)))]),C 23 7 [(t 21),(t 22)]],r [m 24 1,o 25 (.build [(.int .i64 0),(.int .i64 0),(.int .i64 0),(.bool false),(.string
 (bs []))] [(0,(1,(c (n 3))))]),C 26 7 [(t 24),(t 25)]],r [m 27 1,o 28 (.build [(.int .i64 0),(.int .i64 0),(.int .i64 0),(.bool false),(.string
 (bs []))] [(0,(1,(c (n 4)))),(1,(1,(c (n 1)))),(2,(1,(c (n 500))))]),C 29 7 [(t 27),(t 28)]]]),r [u 30 .add 16 1,m 16 30]])=y}).1
def k4:zaa:=(⟨_,by first|(simp only[nf];exact rfl)|rfl⟩:{y//(⟨59,(q [r [M 0 F],r [o 4 (.build [(.int .i64 0),(.int .i64 0),(.int .i64 0),
 (.int .i64 0),(.int .i64 0)] [(0,(1,(c (n 1))))]),C 5 5 [(t 4)],m 1 5],r [m 6 1,o 7 (.build [(.int .i64 0),(.int .i64 0),(.int .i64 0),(.bool false),
 (.string (bs []))] [(0,(1,(c (n 0)))),(4,(1,(c (.string (bs [97,98,99])))))]),C 8 7 [(t 6),(t 7)],u 9 .eql 8 0,m 10 9,h 11 10 true 1,g 12 10 true
 (.build [(.int .i64 0),(.int .i64 0),(.int .i64 0),(.bool false),(.string (bs []))] [(0,(1,(c (n 6)))),(1,(1,(c (n 1))))]),g 13 10 true
 (.call 7 [(t 11),(t 12)]),g 14 10 true (.bin .eql (t 13) (c (n 0))),a 15 10 14,m 2 15],q [r [M 16 (n 0)],.block 0 (.loop b4_0)],r [m 31 1,
 C 32 17 [(t 31),(c (n 1))],m 3 32],r [m 33 2,m 34 33,h 35 34 true 3,g 36 34 true (.lenL (t 35)),g 37 34 true (.bin .eql (t 36) (c (n 1))),a 38 34 37,
 m 39 38,h 40 39 true 3,g 41 39 true (.iad 1 (t 40) (c (n 0))),g 42 39 true (.ld (t 41)),g 43 39 true (.bin .eql (t 42) (c (.string (bs [97,98,
  99])))),a 44 39 43,m 45 44,h 46 45 true 1,g 47 45 true (.call 14 [(t 46),(c (n 1))]),g 48 45 true (.bin .eql (t 47) (c (n 1))),a 49 45 48,m 50 49,
 h 51 50 true 1,g 52 50 true (.call 15 [(t 51),(c (n 1))]),g 53 50 true (.bin .eql (t 52) (c (n 0))),a 54 50 53,m 55 54,h 56 55 true 1,g 57 55 true
 (.call 16 [(t 56),(c (n 1))]),a 58 55 57,m 0 58],.ret]),[(.t 0)]⟩:zaa)=y}).1
def b5_0:zae:=(⟨_,by first|(simp only[nf];exact rfl)|rfl⟩:{y//(q [r [v 31 .lss 30 29],k 31 .skip (.exit 0),.block 1 (q [r [m 32 30,m 4 32],
 r [m 33 3,m 34 3,o 35 (.nck (t 34)),f 36 9 35,l 37 36,f 39 2 1,l 40 39,m 42 4,u 43 .add 42 1,C 38 29 [],(.chk 37 none (.ld (t 36))),(.chk 40 none
 (.ld (t 39))),C 41 30 [(t 40)],(.chk 37 none (.ld (t 36))),o 44 (.build [(.pointer none),(.pointer none),(.pointer none),(.pointer none),
 (.pointer none),(.pointer none),(.string (bs [])),(.slice none 0 0),(.bool false),(.slice none 0 0),(.slice none 0 0),(.int .i64 0)] [(0,(1,(t 38))),
 (1,(1,(t 41))),(11,(1,(t 43)))]),o 45 (.box 67 (t 44)),(.chk 37 none (.ld (t 36))),o 46 (.bsl 57 1 [(.pointer none)] [(0,(1,(t 45)))]),(.chk 37 none
 (.ld (t 36))),o 47 (.app 57 1 8 (t 37) (t 46)),o 48 (.nck (t 33)),f 49 9 48,O (.st (t 49) (t 47))]]),r [u 50 .add 30 1,m 30 50]])=y}).1
def k5:zaa:=(⟨_,by first|(simp only[nf];exact rfl)|rfl⟩:{y//(⟨52,(q [r [o 1 (.box 28 (t 0)),M 2 P],r [f 5 0 1,l 6 5,f 8 2 1,l 9 8,f 11 3 1,l 12 11,
 C 7 24 [(t 6),(c (n 1)),(c (n 16))],(.chk 9 none (.ld (t 8))),(.chk 12 none (.ld (t 11))),f 14 0 1,C 10 24 [(t 9),(c (n 1000)),(c (n 2048))],
 (.chk 12 none (.ld (t 11))),C 13 24 [(t 12),(c (n 0)),(c (n 400))],O (.st (t 14) (t 7)),f 15 2 1,O (.st (t 15) (t 10)),f 16 3 1,O (.st (t 16)
 (t 13))],r [o 17 (.ldn 5 (t 1)),f 20 4 1,l 21 20,f 23 0 1,l 24 23,C 18 25 [],(.chk 17 none (.ldn 5 (t 1))),(.chk 21 none (.ld (t 20))),(.chk 24 none
 (.ld (t 23))),C 19 26 [],(.chk 17 none (.ldn 5 (t 1))),(.chk 21 none (.ld (t 20))),(.chk 24 none (.ld (t 23))),C 22 27 [(t 21)],(.chk 17 none
 (.ldn 5 (t 1))),(.chk 24 none (.ld (t 23))),C 25 28 [(t 24)],(.chk 17 none (.ldn 5 (t 1))),o 26 (.build [(.int .i64 0),(.int .i64 0),(.int .i64 0),
 (.int .i64 0),(.int .i64 0),(.pointer none),(.pointer none),(.pointer none),(.pointer none),(.slice none 0 0),(.slice none 0 0)] [(0,(5,(t 17))),(5,
 (1,(t 18))),(6,(1,(t 19))),(7,(1,(t 22))),(8,(1,(t 25)))]),o 27 (.box 56 (t 26)),m 3 27],q [r [f 28 0 1,l 29 28,M 30 (n 0)],.block 0 (.loop b5_0)],
 r [m 51 3,m 2 51],.ret]),[(.t 2)]⟩:zaa)=y}).1
def k6:zaa:=(⟨_,by first|(simp only[nf];exact rfl)|rfl⟩:{y//(⟨34,(q [r [M 4 (n 0),M 5 (n 0)],r [m 9 0,m 10 1,C 11 31 [(t 9),(t 10)],m 6 11],
 q [r [m 12 6,o 13 (.eqv .ptr false (t 12) (c P))],k 13 (q [r [M 4 (n 0),M 5 (n 0)],.ret]) .skip],r [m 14 6,o 15 (.nck (t 14)),f 16 1 15,l 17 16,
 m 19 6,o 20 (.nck (t 19)),f 21 1 20,l 22 21,C 18 32 [(t 17)],(.chk 22 none (.ld (t 21))),C 23 33 [(t 22)],m 7 18,m 8 23],r [m 24 7,C 25 34 [(t 24)],
 m 26 7,C 27 35 [(t 26)],v 28 .add 25 27,m 29 8,C 30 34 [(t 29)],m 31 8,C 32 35 [(t 31)],v 33 .add 30 32,m 4 28,m 5 33],.ret]),[(.t 4),
 (.t 5)]⟩:zaa)=y}).1
def k7:zaa:=(⟨_,by first|(simp only[nf];exact rfl)|rfl⟩:{y//(⟨46,(q [r [o 3 (.box 23 (t 1)),M 4 (n 0)],q [r [m 6 0,o 7 (.eqv .ptr false (t 6)
 (c P))],k 7 (q [r [M 4 (n 1)],.ret]) .skip],q [r [f 8 0 3,l 9 8],.block 0 (q [r [u 11 .eql 9 0,m 10 11],k 10 (q [r [m 12 0,f 13 4 3,l 14 13,
 C 15 36 [(t 12),(t 14)],m 4 15],.ret]) (q [r [u 17 .eql 9 1,m 16 17],k 16 (q [r [m 18 0,C 19 37 [(t 18)],m 4 19],.ret]) (q [r [u 21 .eql 9 2,
 m 20 21],k 20 (q [r [m 22 0,f 23 2 3,l 24 23,C 25 38 [(t 22),(t 24)],m 4 25],.ret]) .skip])])])],q [r [f 26 0 3,l 27 26,u 28 .eql 27 3,m 29 28,
 g 30 29 true (.fad 1 (t 3)),g 31 29 true (.ld (t 30)),g 32 29 true (.bin .eql (t 31) (c (n 0))),a 33 29 32],k 33 (q [r [m 34 0,C 35 39 [(t 34)]],
 r [M 4 (n 0)],.ret]) .skip],r [m 36 0,f 37 1 3,l 38 37,C 39 31 [(t 36),(t 38)],m 5 39],q [r [m 40 5,o 41 (.eqv .ptr false (t 40) (c P))],k 41
 (q [r [M 4 (n 1)],.ret]) .skip],r [m 42 0,m 43 5,o 44 (.ldn 5 (t 3)),C 45 40 [(t 42),(t 43),(t 44)],m 4 45],.ret]),[(.t 4)]⟩:zaa)=y}).1
def k8:zaa:=(⟨_,by first|(simp only[nf];exact rfl)|rfl⟩:{y//(⟨10,(q [r [M 2 (n 0)],q [r [m 3 0,o 4 (.eqv .ptr false (t 3) (c P))],k 4 (q [r [M 2
 (n 0)],.ret]) .skip],r [m 5 0,o 6 (.nck (t 5)),f 7 9 6,l 8 7,L 9 8,m 2 9],.ret]),[(.t 2)]⟩:zaa)=y}).1
def k9:zaa:=(⟨_,by first|(simp only[nf];exact rfl)|rfl⟩:{y//(⟨10,(q [r [M 2 (n 0)],q [r [m 3 0,o 4 (.eqv .ptr false (t 3) (c P))],k 4 (q [r [M 2
 (n 0)],.ret]) .skip],r [m 5 0,o 6 (.nck (t 5)),f 7 5 6,l 8 7,C 9 41 [(t 8)],m 2 9],.ret]),[(.t 2)]⟩:zaa)=y}).1
def k10:zaa:=(⟨_,by first|(simp only[nf];exact rfl)|rfl⟩:{y//(⟨10,(q [r [M 2 (n 0)],q [r [m 3 0,o 4 (.eqv .ptr false (t 3) (c P))],k 4 (q [r [M 2
 (n 0)],.ret]) .skip],r [m 5 0,o 6 (.nck (t 5)),f 7 5 6,l 8 7,C 9 42 [(t 8)],m 2 9],.ret]),[(.t 2)]⟩:zaa)=y}).1
def k11:zaa:=(⟨_,by first|(simp only[nf];exact rfl)|rfl⟩:{y//(⟨10,(q [r [M 2 Z],q [r [m 3 0,o 4 (.eqv .ptr false (t 3) (c P))],k 4 (q [r [M 2 Z],
 .ret]) .skip],r [m 5 0,o 6 (.nck (t 5)),f 7 5 6,l 8 7,C 9 43 [(t 8)],m 2 9],.ret]),[(.t 2)]⟩:zaa)=y}).1
def k12:zaa:=(⟨_,by first|(simp only[nf];exact rfl)|rfl⟩:{y//(⟨10,(q [r [M 2 Z],q [r [m 3 0,o 4 (.eqv .ptr false (t 3) (c P))],k 4 (q [r [M 2 Z],
 .ret]) .skip],r [m 5 0,o 6 (.nck (t 5)),f 7 6 6,l 8 7,C 9 44 [(t 8)],m 2 9],.ret]),[(.t 2)]⟩:zaa)=y}).1
def k13:zaa:=(⟨_,by first|(simp only[nf];exact rfl)|rfl⟩:{y//(⟨10,(q [r [M 2 Z],q [r [m 3 0,o 4 (.eqv .ptr false (t 3) (c P))],k 4 (q [r [M 2 Z],
 .ret]) .skip],r [m 5 0,o 6 (.nck (t 5)),f 7 10 6,l 8 7,C 9 45 [(t 8)],m 2 9],.ret]),[(.t 2)]⟩:zaa)=y}).1
def k14:zaa:=(⟨_,by first|(simp only[nf];exact rfl)|rfl⟩:{y//(⟨13,(q [r [M 4 (n 0)],q [r [m 5 0,o 6 (.eqv .ptr false (t 5) (c P))],k 6 (q [r [M 4
 (n 0)],.ret]) .skip],r [m 7 0,o 8 (.nck (t 7)),f 9 8 8,l 10 9,m 11 1,C 12 46 [(t 10),(t 11)],m 4 12],.ret]),[(.t 4)]⟩:zaa)=y}).1
def k15:zaa:=(⟨_,by first|(simp only[nf];exact rfl)|rfl⟩:{y//(⟨18,(q [r [M 4 (n 0)],q [r [m 5 0,o 6 (.eqv .ptr false (t 5) (c P))],k 6 (q [r [M 4
 (n 0)],.ret]) .skip],r [m 7 0,o 8 (.nck (t 7)),f 9 8 8,l 10 9,m 11 1,m 12 0,o 13 (.nck (t 12)),f 14 5 13,l 15 14,C 16 41 [(t 15)],(.chk 10 none (.ld
 (t 9))),C 17 47 [(t 10),(t 11),(t 16)],m 4 17],.ret]),[(.t 4)]⟩:zaa)=y}).1
def k16:zaa:=(⟨_,by first|(simp only[nf];exact rfl)|rfl⟩:{y//(⟨18,(q [r [M 4 F],r [m 6 0,m 7 1,C 8 31 [(t 6),(t 7)],m 5 8],r [m 9 5,o 10
 (.eqv .ptr true (t 9) (c P)),m 11 10,h 12 11 true 5,g 13 11 true (.nck (t 12)),g 14 11 true (.fad 1 (t 13)),g 15 11 true (.ld (t 14)),g 16 11 true
 (.call 48 [(t 15)]),a 17 11 16,m 4 17],.ret]),[(.t 4)]⟩:zaa)=y}).1
def k17:zaa:=(⟨_,by first|(simp only[nf];exact rfl)|rfl⟩:{y//(⟨16,(q [r [M 4 Z],q [r [m 6 0,m 7 1,C 8 31 [(t 6),(t 7)],m 5 8],r [m 9 5,o 10
 (.eqv .ptr true (t 9) (c P))],k 10 (q [r [m 11 5,o 12 (.nck (t 11)),f 13 0 12,l 14 13,C 15 49 [(t 14)],m 4 15],.ret]) .skip],r [M 4 Z],.ret]),
 [(.t 4)]⟩:zaa)=y}).1
def k18:zaa:=(⟨_,by first|(simp only[nf];exact rfl)|rfl⟩:{y//(⟨16,(q [r [M 4 (n 0)],q [r [m 6 0,m 7 1,C 8 31 [(t 6),(t 7)],m 5 8],r [m 9 5,o 10
 (.eqv .ptr true (t 9) (c P))],k 10 (q [r [m 11 5,o 12 (.nck (t 11)),f 13 0 12,l 14 13,C 15 50 [(t 14)],m 4 15],.ret]) .skip],r [M 4 (n 0)],.ret]),
 [(.t 4)]⟩:zaa)=y}).1
def k19:zaa:=(⟨_,by first|(simp only[nf];exact rfl)|rfl⟩:{y//(⟨16,(q [r [M 4 (n 0)],q [r [m 6 0,m 7 1,C 8 31 [(t 6),(t 7)],m 5 8],r [m 9 5,o 10
 (.eqv .ptr true (t 9) (c P))],k 10 (q [r [m 11 5,o 12 (.nck (t 11)),f 13 0 12,l 14 13,C 15 51 [(t 14)],m 4 15],.ret]) .skip],r [M 4 (n 0)],.ret]),
 [(.t 4)]⟩:zaa)=y}).1
def k20:zaa:=(⟨_,by first|(simp only[nf];exact rfl)|rfl⟩:{y//(⟨16,(q [r [M 4 (n 0)],q [r [m 6 0,m 7 1,C 8 31 [(t 6),(t 7)],m 5 8],r [m 9 5,o 10
 (.eqv .ptr true (t 9) (c P))],k 10 (q [r [m 11 5,o 12 (.nck (t 11)),f 13 1 12,l 14 13,C 15 52 [(t 14)],m 4 15],.ret]) .skip],r [M 4 (n 0)],.ret]),
 [(.t 4)]⟩:zaa)=y}).1
def k21:zaa:=(⟨_,by first|(simp only[nf];exact rfl)|rfl⟩:{y//(⟨17,(q [r [M 4 F],r [m 6 0,m 7 1,C 8 31 [(t 6),(t 7)],m 5 8],r [m 9 5,o 10
 (.eqv .ptr true (t 9) (c P)),m 11 10,h 12 11 true 5,g 13 11 true (.nck (t 12)),g 14 11 true (.fad 8 (t 13)),g 15 11 true (.ld (t 14)),a 16 11 15,
 m 4 16],.ret]),[(.t 4)]⟩:zaa)=y}).1
def k22:zaa:=(⟨_,by first|(simp only[nf];exact rfl)|rfl⟩:{y//(⟨16,(q [r [M 4 E],q [r [m 6 0,m 7 1,C 8 31 [(t 6),(t 7)],m 5 8],r [m 9 5,o 10
 (.eqv .ptr true (t 9) (c P))],k 10 (q [r [m 11 5,o 12 (.nck (t 11)),f 13 9 12,l 14 13,o 15 (.b2s 5 (t 14)),m 4 15],.ret]) .skip],r [M 4 E],.ret]),
 [(.t 4)]⟩:zaa)=y}).1
def k23:zaa:=(⟨_,by first|(simp only[nf];exact rfl)|rfl⟩:{y//(⟨16,(q [r [M 4 E],q [r [m 6 0,m 7 1,C 8 31 [(t 6),(t 7)],m 5 8],r [m 9 5,o 10
 (.eqv .ptr true (t 9) (c P))],k 10 (q [r [m 11 5,o 12 (.nck (t 11)),f 13 10 12,l 14 13,o 15 (.b2s 5 (t 14)),m 4 15],.ret]) .skip],r [M 4 E],.ret]),
 [(.t 4)]⟩:zaa)=y}).1
def k24:zaa:=(⟨_,by first|(simp only[nf];exact rfl)|rfl⟩:{y//(⟨12,(q [r [M 6 (n 0)],r [m 7 0,m 8 1,o 9 (.mx (t 7) [(t 8)]),m 10 2,o 11 (.mn
 (t 9) [(t 10)]),m 6 11],.ret]),[(.t 6)]⟩:zaa)=y}).1
def k25:zaa:=(⟨_,by first|(simp only[nf];exact rfl)|rfl⟩:{y//(⟨3,(q [r [M 0 P],r [o 1 (.build [(.slice none 0 0),(.int .i64 0),(.int .i64 0)] []),
 o 2 (.box 80 (t 1)),m 0 2],.ret]),[(.t 0)]⟩:zaa)=y}).1
def k26:zaa:=(⟨_,by first|(simp only[nf];exact rfl)|rfl⟩:{y//(⟨3,(q [r [M 0 P],r [o 1 (.build [(.slice none 0 0),(.int .i64 0)] []),o 2 (.box 83
 (t 1)),m 0 2],.ret]),[(.t 0)]⟩:zaa)=y}).1
def k27:zaa:=(⟨_,by first|(simp only[nf];exact rfl)|rfl⟩:{y//(⟨9,(q [r [M 2 P],r [m 3 0,o 4 (.mx (t 3) [(c (n 1))]),o 5 (.mn (t 4) [(c (n 64))]),
 o 6 (.mks 9 [(.string (bs []))] 16 (t 5) (t 5)),o 7 (.build [(.slice none 0 0),(.int .i64 0),(.int .i64 0),(.int .i64 0)] [(0,(1,(t 6)))]),o 8
 (.box 85 (t 7)),m 2 8],.ret]),[(.t 2)]⟩:zaa)=y}).1
def k28:zaa:=(⟨_,by first|(simp only[nf];exact rfl)|rfl⟩:{y//(⟨9,(q [r [M 2 P],r [m 3 0,o 4 (.mx (t 3) [(c (n 1))]),o 5 (.mn (t 4) [(c (n 16))]),
 o 6 (.mks 3 [(.int .i64 0)] 8 (t 5) (t 5)),o 7 (.build [(.slice none 0 0)] [(0,(1,(t 6)))]),o 8 (.box 87 (t 7)),m 2 8],.ret]),[(.t 2)]⟩:zaa)=y}).1
def k29:zaa:=(⟨_,by first|(simp only[nf];exact rfl)|rfl⟩:{y//(⟨4,(q [r [M 0 P],r [o 1 .mkm,o 2 (.build [(.slice none 0 0),(.slice none 0 0),
 (.map none)] [(2,(1,(t 1)))]),o 3 (.box 90 (t 2)),m 0 3],.ret]),[(.t 0)]⟩:zaa)=y}).1
def k30:zaa:=(⟨_,by first|(simp only[nf];exact rfl)|rfl⟩:{y//(⟨9,(q [r [M 2 P],r [m 3 0,C 4 53 [(t 3)],m 5 0,C 6 53 [(t 5)],o 7
 (.build [(.pointer none),(.pointer none),(.bool false),(.int .i64 0)] [(0,(1,(t 4))),(1,(1,(t 6)))]),o 8 (.box 93 (t 7)),m 2 8],.ret]),
 [(.t 2)]⟩:zaa)=y}).1
def k31:zaa:=(⟨_,by first|(simp only[nf];exact rfl)|rfl⟩:{y//(⟨28,(q [r [M 4 P],q [r [m 5 0,o 6 (.eqv .ptr false (t 5) (c P)),m 7 6,h 8 7 false 1,
 g 9 7 false (.bin .lss (t 8) (c (n 1))),p 10 7 9,m 11 10,h 12 11 false 1,h 13 11 false 0,g 14 11 false (.nck (t 13)),g 15 11 false (.fad 9 (t 14)),
 g 16 11 false (.ld (t 15)),g 17 11 false (.lenL (t 16)),g 18 11 false (.bin .gtr (t 12) (t 17)),p 19 11 18],k 19 (q [r [M 4 P],.ret]) .skip],
 r [m 20 0,o 21 (.nck (t 20)),f 22 9 21,l 23 22,m 24 1,u 25 .sub 24 1,e 26 1 23 25,l 27 26,m 4 27],.ret]),[(.t 4)]⟩:zaa)=y}).1
def k32:zaa:=(⟨_,by first|(simp only[nf];exact rfl)|rfl⟩:{y//(⟨10,(q [r [M 2 P],q [r [m 3 0,C 4 48 [(t 3)],o 5 (.un .not (t 4))],k 5 (q [r [M 2 P],
 .ret]) .skip],r [m 6 0,o 7 (.nck (t 6)),f 8 0 7,l 9 8,m 2 9],.ret]),[(.t 2)]⟩:zaa)=y}).1
def k33:zaa:=(⟨_,by first|(simp only[nf];exact rfl)|rfl⟩:{y//(⟨10,(q [r [M 2 P],q [r [m 3 0,C 4 48 [(t 3)],o 5 (.un .not (t 4))],k 5 (q [r [M 2 P],
 .ret]) .skip],r [m 6 0,o 7 (.nck (t 6)),f 8 1 7,l 9 8,m 2 9],.ret]),[(.t 2)]⟩:zaa)=y}).1
def k34:zaa:=(⟨_,by first|(simp only[nf];exact rfl)|rfl⟩:{y//(⟨10,(q [r [M 2 (n 0)],q [r [m 3 0,o 4 (.eqv .ptr false (t 3) (c P))],k 4 (q [r [M 2
 (n 0)],.ret]) .skip],r [m 5 0,o 6 (.nck (t 5)),f 7 1 6,l 8 7,L 9 8,m 2 9],.ret]),[(.t 2)]⟩:zaa)=y}).1
def k35:zaa:=(⟨_,by first|(simp only[nf];exact rfl)|rfl⟩:{y//(⟨10,(q [r [M 2 (n 0)],q [r [m 3 0,o 4 (.eqv .ptr false (t 3) (c P))],k 4 (q [r [M 2
 (n 0)],.ret]) .skip],r [m 5 0,o 6 (.nck (t 5)),f 7 2 6,l 8 7,L 9 8,m 2 9],.ret]),[(.t 2)]⟩:zaa)=y}).1
def k36:zaa:=(⟨_,by first|(simp only[nf];exact rfl)|rfl⟩:{y//(⟨25,(q [r [M 4 (n 0)],r [m 8 0,o 9 (.nck (t 8)),f 10 5 9,l 11 10,m 12 1,
 C 13 54 [(t 11),(t 12)],m 7 13,x 14 7 0,x 15 7 1,m 5 14,m 6 15],q [r [m 16 6,u 17 .eql 16 0],k 17 (r [m 18 0,o 19 (.nck (t 18)),f 20 7 19,l 21 20,
 m 22 1,C 23 55 [(t 21),(t 22)]]) .skip],r [m 24 6,m 4 24],.ret]),[(.t 4)]⟩:zaa)=y}).1
def b39_0:zae:=(⟨_,by first|(simp only[nf];exact rfl)|rfl⟩:{y//(q [r [v 10 .lss 9 8],k 10 .skip (.exit 0),.block 1 (q [r [e 11 1 7 9,l 12 11,
 m 3 12],r [m 13 3,o 14 (.nck (t 13)),f 15 1 14,l 16 15,C 17 48 [(t 16)],m 18 17,h 19 18 true 0,h 20 18 true 3,g 21 18 true (.call 63 [(t 19),
 (t 20)]),a 22 18 21],k 22 (r [m 23 0,m 24 3,C 25 64 [(t 23),(t 24)]]) .skip]),r [u 26 .add 9 1,m 9 26]])=y}).1
def k39:zaa:=(⟨_,by first|(simp only[nf];exact rfl)|rfl⟩:{y//(⟨27,(q [r [m 4 0,o 5 (.nck (t 4)),f 6 9 5,l 7 6,L 8 7,M 9 (n 0)],.block 0
 (.loop b39_0)]),[]⟩:zaa)=y}).1
def k40:zaa:=(⟨_,by first|(simp only[nf];exact rfl)|rfl⟩:{y//(⟨62,(q [r [o 5 (.box 23 (t 2)),M 6 (n 0)],q [r [f 7 0 5,l 8 7],.block 0
 (q [r [u 10 .eql 8 3,m 9 10],k 9 (q [r [m 11 0,m 12 1,C 13 65 [(t 11),(t 12)]],r [M 6 (n 0)],.ret]) (q [r [u 15 .eql 8 7,m 14 15],k 14 (q [r [m 16 1,
 C 17 66 [(t 16)]],r [m 18 1,o 19 (.nck (t 18)),f 20 0 19,l 21 20,C 22 67 [(t 21)]],r [M 6 (n 0)],.ret]) (q [r [u 24 .eql 8 8,m 23 24],k 23
 (q [r [m 25 1,o 26 (.nck (t 25)),f 27 0 26,l 28 27,C 29 68 [(t 28)]],r [M 6 (n 0)],.ret]) (q [r [u 31 .eql 8 6,m 30 31],k 30 (q [q [r [m 32 1,m 33 0,
 o 34 (.nck (t 33)),f 35 5 34,l 36 35,m 37 0,o 38 (.nck (t 37)),f 39 6 38,l 40 39,m 41 0,o 42 (.nck (t 41)),f 43 0 42,f 44 1 43,l 45 44,
 C 46 70 [(t 36),(t 40),(t 45)],C 47 69 [(t 32),(t 46)],o 48 (.un .not (t 47))],k 48 (q [r [M 6 (n 6)],.ret]) .skip],r [M 6 (n 0)],.ret])
 (q [q [r [u 50 .eql 8 4,m 49 50],k 49 .skip (q [r [u 51 .eql 8 5,m 49 51],k 49 .skip (r [u 52 .eql 8 9,m 49 52])])],k 49 (q [q [r [m 53 1,o 54 (.nck
 (t 53)),f 55 1 54,l 56 55,C 57 48 [(t 56)],o 58 (.un .not (t 57))],k 58 (q [r [M 6 (n 9)],.ret]) .skip],r [m 59 1,o 60 (.ldn 5 (t 5)),
 C 61 71 [(t 59),(t 60)],m 6 61],.ret]) .skip])])])])])],r [M 6 (n 1)],.ret]),[(.t 6)]⟩:zaa)=y}).1
def k41:zaa:=(⟨_,by first|(simp only[nf];exact rfl)|rfl⟩:{y//(⟨10,(q [r [M 2 (n 0)],q [r [m 3 0,o 4 (.eqv .ptr false (t 3) (c P))],k 4 (q [r [M 2
 (n 0)],.ret]) .skip],r [m 5 0,o 6 (.nck (t 5)),f 7 0 6,l 8 7,L 9 8,m 2 9],.ret]),[(.t 2)]⟩:zaa)=y}).1
def k42:zaa:=(⟨_,by first|(simp only[nf];exact rfl)|rfl⟩:{y//(⟨9,(q [r [M 2 (n 0)],q [r [m 3 0,o 4 (.eqv .ptr false (t 3) (c P))],k 4 (q [r [M 2
 (n 0)],.ret]) .skip],r [m 5 0,o 6 (.nck (t 5)),f 7 1 6,l 8 7,m 2 8],.ret]),[(.t 2)]⟩:zaa)=y}).1
def k46:zaa:=(⟨_,by first|(simp only[nf];exact rfl)|rfl⟩:{y//(⟨17,(q [r [M 4 (n 0)],q [r [m 5 0,m 6 1,C 7 73 [(t 5),(t 6)],o 8 (.un .not (t 7))],
 k 8 (q [r [M 4 (n 0)],.ret]) .skip],r [m 9 0,o 10 (.nck (t 9)),f 11 0 10,l 12 11,m 13 1,u 14 .sub 13 1,e 15 1 12 14,l 16 15,m 4 16],.ret]),
 [(.t 4)]⟩:zaa)=y}).1
def k47:zaa:=(⟨_,by first|(simp only[nf];exact rfl)|rfl⟩:{y//(⟨21,(q [r [M 6 (n 0)],q [r [m 7 0,m 8 1,C 9 73 [(t 7),(t 8)],o 10 (.un .not (t 9)),
 m 11 10,h 12 11 false 2,g 13 11 false (.bin .lss (t 12) (c (n 0))),p 14 11 13],k 14 (q [r [M 6 (n 0)],.ret]) .skip],r [m 15 2,m 16 0,m 17 1,
 C 18 46 [(t 16),(t 17)],v 19 .sub 15 18,o 20 (.mx (t 19) [(c (n 0))]),m 6 20],.ret]),[(.t 6)]⟩:zaa)=y}).1
def k48:zaa:=(⟨_,by first|(simp only[nf];exact rfl)|rfl⟩:{y//(⟨11,(q [r [M 2 F],r [m 3 0,o 4 (.eqv .ptr true (t 3) (c P)),m 5 4,h 6 5 true 0,
 g 7 5 true (.nck (t 6)),g 8 5 true (.fad 2 (t 7)),g 9 5 true (.ld (t 8)),a 10 5 9,m 2 10],.ret]),[(.t 2)]⟩:zaa)=y}).1
def k49:zaa:=(⟨_,by first|(simp only[nf];exact rfl)|rfl⟩:{y//(⟨10,(q [r [M 2 Z],q [r [m 3 0,o 4 (.eqv .ptr false (t 3) (c P))],k 4 (q [r [M 2 Z],
 .ret]) .skip],r [m 5 0,o 6 (.nck (t 5)),f 7 0 6,l 8 7,C 9 72 [(t 8)],m 2 9],.ret]),[(.t 2)]⟩:zaa)=y}).1
def k50:zaa:=(⟨_,by first|(simp only[nf];exact rfl)|rfl⟩:{y//(⟨10,(q [r [M 2 (n 0)],q [r [m 3 0,o 4 (.eqv .ptr false (t 3) (c P))],k 4 (q [r [M 2
 (n 0)],.ret]) .skip],r [m 5 0,o 6 (.nck (t 5)),f 7 0 6,l 8 7,L 9 8,m 2 9],.ret]),[(.t 2)]⟩:zaa)=y}).1
def k52:zaa:=(⟨_,by first|(simp only[nf];exact rfl)|rfl⟩:{y//(⟨9,(q [r [M 2 (n 0)],q [r [m 3 0,o 4 (.eqv .ptr false (t 3) (c P))],k 4 (q [r [M 2
 (n 0)],.ret]) .skip],r [m 5 0,o 6 (.nck (t 5)),f 7 3 6,l 8 7,m 2 8],.ret]),[(.t 2)]⟩:zaa)=y}).1
def k53:zaa:=(⟨_,by first|(simp only[nf];exact rfl)|rfl⟩:{y//(⟨9,(q [r [M 2 P],r [m 3 0,o 4 (.mx (t 3) [(c (n 1))]),o 5 (.mn (t 4) [(c (n 2048))]),
 C 6 74 [],o 7 (.build [(.int .i64 0),(.slice none 0 0),(.slice none 0 0),(.int .u64 0),(.int .u64 0)] [(0,(1,(t 5))),(3,(2,(t 6)))]),o 8 (.box 99
 (t 7)),m 2 8],.ret]),[(.t 2)]⟩:zaa)=y}).1
def k54:zaa:=(⟨_,by first|(simp only[nf];exact rfl)|rfl⟩:{y//(⟨45,(q [r [M 4 (n 0),M 5 (n 0)],.block 0 (q [r [m 7 0,o 8 (.eqv .ptr false (t 7)
 (c P)),m 6 8],k 6 (q [r [M 4 (n 0),M 5 (n 1)],.ret]) (q [r [m 10 1,o 11 (.lenS (t 10)),u 12 .gtr 11 512,m 9 12],k 9 (q [r [M 4 (n 0),M 5 (n 5)],
 .ret]) (q [r [m 14 0,o 15 (.nck (t 14)),f 16 0 15,l 17 16,L 18 17,u 19 .geq 18 400,m 13 19],k 13 (q [r [M 4 (n 0),M 5 (n 2)],.ret]) .skip])])]),
 r [m 20 0,m 21 0,o 22 (.nck (t 21)),f 23 0 22,l 24 23,m 25 1,o 26 (.bsl 9 1 [(.string (bs []))] [(0,(1,(t 25)))]),o 27 (.app 9 1 16 (t 24) (t 26)),
 o 28 (.nck (t 20)),f 29 0 28,O (.st (t 29) (t 27))],r [m 30 0,o 31 (.nck (t 30)),f 32 2 31,l 33 32,m 34 1,o 35 (.lenS (t 34)),v 36 .add 33 35,o 37
 (.nck (t 30)),f 38 2 37,O (.st (t 38) (t 36))],r [m 39 0,o 40 (.nck (t 39)),f 41 0 40,l 42 41,L 43 42,u 44 .sub 43 1,m 4 44,M 5 (n 0)],.ret]),
 [(.t 4),(.t 5)]⟩:zaa)=y}).1
def k55:zaa:=(⟨_,by first|(simp only[nf];exact rfl)|rfl⟩:{y//(⟨74,(q [q [r [m 4 0,o 5 (.eqv .ptr false (t 4) (c P))],k 5 .ret .skip],q [r [m 6 0,
 o 7 (.nck (t 6)),f 8 2 7,l 9 8,m 10 0,o 11 (.nck (t 10)),f 12 0 11,l 13 12,L 14 13,v 15 .eql 9 14],k 15 (q [r [m 16 0,o 17 (.nck (t 16)),f 18 3 17,
 l 19 18,m 20 0,o 21 (.nck (t 20)),f 22 0 21,l 23 22,m 24 0,o 25 (.nck (t 24)),f 26 1 25,l 27 26,e 28 1 23 27,l 29 28,o 30 (.lenS (t 29)),
 v 31 .sub 19 30,o 32 (.nck (t 16)),f 33 3 32,O (.st (t 33) (t 31))],r [m 34 0,m 35 0,C 36 75 [(t 35),(c (n 1))],o 37 (.nck (t 34)),f 38 1 37,O (.st
 (t 38) (t 36))],r [m 39 0,o 40 (.nck (t 39)),f 41 2 40,l 42 41,u 43 .sub 42 1,o 44 (.nck (t 39)),f 45 2 44,O (.st (t 45) (t 43))]]) .skip],r [m 46 0,
 o 47 (.nck (t 46)),f 48 0 47,l 49 48,m 50 0,m 51 0,o 52 (.nck (t 51)),f 53 2 52,l 54 53,m 56 1,C 55 75 [(t 50),(t 54)],(.chk 49 none (.ld (t 48))),
 e 57 1 49 55,O (.st (t 57) (t 56))],r [m 58 0,o 59 (.nck (t 58)),f 60 2 59,l 61 60,u 62 .add 61 1,o 63 (.nck (t 58)),f 64 2 63,O (.st (t 64)
 (t 62))],r [m 65 0,o 66 (.nck (t 65)),f 67 3 66,l 68 67,m 69 1,o 70 (.lenS (t 69)),v 71 .add 68 70,o 72 (.nck (t 65)),f 73 3 72,O (.st (t 73)
 (t 71))]]),[]⟩:zaa)=y}).1
def k58:zaa:=(⟨_,by first|(simp only[nf];exact rfl)|rfl⟩:{y//(⟨20,(q [r [M 4 E,M 5 F],r [m 7 0,m 8 1,C 9 80 [(t 7),(t 8)],m 6 9],q [r [m 10 6,
 u 11 .lss 10 0],k 11 (q [r [M 4 E,M 5 F],.ret]) .skip],r [m 12 0,o 13 (.nck (t 12)),f 14 0 13,l 15 14,m 16 6,e 17 3 15 16,f 18 1 17,l 19 18,m 4 19,
 M 5 T],.ret]),[(.t 4),(.t 5)]⟩:zaa)=y}).1
def k59:zaa:=(⟨_,by first|(simp only[nf];exact rfl)|rfl⟩:{y//(⟨9,(q [r [M 2 (n 0)],q [r [m 3 0,o 4 (.eqv .ptr false (t 3) (c P))],k 4 (q [r [M 2
 (n 0)],.ret]) .skip],r [m 5 0,o 6 (.nck (t 5)),f 7 1 6,l 8 7,m 2 8],.ret]),[(.t 2)]⟩:zaa)=y}).1
def k63:zaa:=(⟨_,by first|(simp only[nf];exact rfl)|rfl⟩:{y//(⟨54,(q [r [M 4 F],r [m 9 1,o 10 (.nck (t 9)),f 11 4 10,l 12 11,m 13 1,o 14 (.nck
 (t 13)),f 15 1 14,l 16 15,C 17 33 [(t 16)],(.chk 12 none (.ld (t 11))),C 18 82 [(t 12),(t 17),(c (.func (.func 83) ([]).toArray ([]).toArray))],
 m 8 18,x 19 8 0,x 20 8 1,x 21 8 2,o 5 (.alloc 118 [(.int .i64 0),(.int .i64 0),(.int .i64 0),(.int .i64 0),(.int .u64 0),(.string (bs []))]),
 (.chk 12 none (.ld (t 11))),(.chk 16 none (.ld (t 15))),O (.stn 6 (t 5) (t 19)),m 6 20,m 7 21],q [r [m 22 7,u 23 .eql 22 0,m 24 23,h 25 24 true 6,
 a 26 24 25],k 26 (r [m 27 1,o 28 (.nck (t 27)),f 29 2 28,l 30 29,o 31 (.ldn 6 (t 5)),C 32 84 [(t 30),(t 31)],m 7 32]) .skip],q [r [m 33 7,
 u 34 .neq 33 0],k 34 (q [r [m 35 0,m 36 1,m 37 7,C 38 85 [(t 35),(t 36),(t 37)]],r [M 4 F],.ret]) .skip],q [r [m 39 6],k 39 (r [m 40 0,o 41 (.nck
 (t 40)),f 42 8 41,l 43 42,m 44 1,o 45 (.nck (t 44)),f 46 11 45,l 47 46,m 48 1,o 49 (.nck (t 48)),f 50 2 49,l 51 50,C 52 87 [(t 51)],(.chk 43 none
 (.ld (t 42))),(.chk 47 none (.ld (t 46))),C 53 86 [(t 43),(t 47),(t 52)]]) .skip],r [M 4 T],.ret]),[(.t 4)]⟩:zaa)=y}).1
def k64:zaa:=(⟨_,by first|(simp only[nf];exact rfl)|rfl⟩:{y//(⟨46,(q [q [r [m 6 1,o 7 (.nck (t 6)),f 8 6 7,l 9 8,o 10 (.bin .eql (t 9) (c E))],k 10
 (q [r [m 12 1,o 13 (.nck (t 12)),f 14 2 13,l 15 14,C 16 88 [(t 15)],m 11 16,x 17 11 0,x 18 11 1,o 4 (.alloc 118 [(.int .i64 0),(.int .i64 0),
 (.int .i64 0),(.int .i64 0),(.int .u64 0),(.string (bs []))]),O (.stn 6 (t 4) (t 17)),m 5 18],q [r [m 19 5,m 20 19,g 21 20 true (.fad 0 (t 4)),
 g 22 20 true (.ld (t 21)),g 23 20 true (.bin .eql (t 22) (c (n 6))),a 24 20 23],k 24 (r [m 25 0,m 26 1,f 27 1 4,l 28 27,m 29 1,o 30 (.nck (t 29)),
 f 31 2 30,l 32 31,C 33 90 [(t 32)],(.chk 28 none (.ld (t 27))),C 34 89 [(t 25),(t 26),(c (n 1)),(t 28),(t 33)]]) .skip],r [m 35 5],k 35 (r [m 37 1,
 o 38 (.ldn 6 (t 4)),C 39 91 [(t 38)],m 36 39,x 40 36 0,x 41 36 1,o 42 (.nck (t 37)),f 43 6 42,O (.st (t 43) (t 40))]) .skip]) .skip],r [m 44 1,
 C 45 92 [(t 44)]]]),[]⟩:zaa)=y}).1
def k65:zaa:=(⟨_,by first|(simp only[nf];exact rfl)|rfl⟩:{y//(⟨50,(q [r [o 3 (.box 57 (t 1))],q [r [l 7 3,o 8 (.nck (t 7)),f 9 1 8,l 10 9,
 C 11 48 [(t 10)],o 12 (.un .not (t 11)),m 13 12,g 14 13 false (.ld (t 3)),g 15 13 false (.call 93 [(t 14)]),g 16 13 false (.un .not (t 15)),
 p 17 13 16],k 17 .ret .skip],r [l 19 3,o 20 (.nck (t 19)),f 21 5 20,l 22 21,l 23 3,o 24 (.nck (t 23)),f 25 1 24,l 26 25,o 28 (.mkf
 (.func 94) [] [(t 3)]),C 27 32 [(t 26)],(.chk 19 none (.ld (t 3))),(.chk 22 none (.ld (t 21))),C 29 82 [(t 22),(t 27),(t 28)],m 18 29,x 30 18 0,
 x 31 18 1,x 32 18 2,o 4 (.alloc 118 [(.int .i64 0),(.int .i64 0),(.int .i64 0),(.int .i64 0),(.int .u64 0),(.string (bs []))]),(.chk 19 none (.ld
 (t 3))),(.chk 22 none (.ld (t 21))),(.chk 23 none (.ld (t 3))),(.chk 26 none (.ld (t 25))),O (.stn 6 (t 4) (t 30)),m 5 31,m 6 32],q [r [m 33 6,
 u 34 .eql 33 0,m 35 34,h 36 35 true 5,a 37 35 36],k 37 (r [m 38 0,l 39 3,o 40 (.ldn 6 (t 4)),C 41 95 [(t 38),(t 39),(t 40)],m 6 41]) .skip],
 q [r [m 42 6,u 43 .neq 42 0],k 43 (q [r [m 44 0,l 45 3,m 46 6,C 47 85 [(t 44),(t 45),(t 46)]],.ret]) .skip],r [l 48 3,C 49 93 [(t 48)]]]),
 []⟩:zaa)=y}).1
def k69:zaa:=(⟨_,by first|(simp only[nf];exact rfl)|rfl⟩:{y//(⟨53,(q [r [M 4 F],q [r [m 5 0,o 6 (.nck (t 5)),f 7 1 6,l 8 7,C 9 98 [(t 8)],o 10
 (.un .not (t 9))],k 10 (q [r [M 4 F],.ret]) .skip],r [m 11 0,m 12 0,m 13 1,m 14 0,o 15 (.nck (t 14)),f 16 0 15,l 17 16,C 18 99 [(t 17)],o 19 (.nck
 (t 11)),f 20 2 19,O (.st (t 20) (t 13)),o 21 (.nck (t 12)),f 22 3 21,O (.st (t 22) (t 18))],r [m 23 0,m 24 0,C 25 100 [],C 26 100 [],o 27 (.nck
 (t 23)),f 28 4 27,O (.st (t 28) (t 25)),o 29 (.nck (t 24)),f 30 5 29,O (.st (t 30) (t 26))],r [m 31 0,m 32 0,m 33 0,m 34 0,m 35 0,o 36 (.nck (t 31)),
 f 37 6 36,O (.st (t 37) (c E)),o 38 (.nck (t 32)),f 39 7 38,O (.st (t 39) (c Z)),o 40 (.nck (t 33)),f 41 8 40,O (.st (t 41) (c F)),o 42 (.nck
 (t 34)),f 43 9 42,O (.st (t 43) (c Z)),o 44 (.nck (t 35)),f 45 10 44,O (.st (t 45) (c Z))],r [m 46 0,m 47 0,o 48 (.nck (t 47)),f 49 3 48,l 50 49,
 C 51 102 [(t 50)],C 52 101 [(t 46),(t 51)]],r [M 4 T],.ret]),[(.t 4)]⟩:zaa)=y}).1
def k70:zaa:=(⟨_,by first|(simp only[nf];exact rfl)|rfl⟩:{y//(⟨12,(q [r [M 6 P],r [m 7 0,m 8 1,m 9 2,o 10 (.build [(.pointer none),(.pointer none),
 (.int .i64 0),(.bool false),(.bool false),(.bool false),(.int .i64 0),(.int .i64 0),(.int .i64 0),(.int .i64 0),(.bool false),(.bool false),(.string
 (bs [])),(.int .i64 0),(.int .i64 0)] [(0,(1,(t 7))),(1,(1,(t 8))),(2,(1,(t 9)))]),o 11 (.box 137 (t 10)),m 6 11],.ret]),[(.t 6)]⟩:zaa)=y}).1
def k71:zaa:=(⟨_,by first|(simp only[nf];exact rfl)|rfl⟩:{y//(⟨55,(q [r [o 3 (.box 23 (t 1)),M 4 (n 0)],.block 0 (q [r [f 14 0 3,l 15 14,
 u 16 .eql 15 5,m 13 16],k 13 (r [m 17 0,C 18 66 [(t 17)]]) (q [r [f 20 0 3,l 21 20,u 22 .eql 21 9,m 19 22],k 19 (q [q [r [m 23 0,o 24 (.nck (t 23)),
 f 25 1 24,l 26 25,f 28 4 3,l 29 28,C 27 32 [(t 26)],(.chk 29 none (.ld (t 28))),C 30 103 [(t 27),(t 29)],o 31 (.un .not (t 30))],k 31 (q [r [M 4
 (n 2)],.ret]) .skip],r [m 32 0,m 33 0,o 34 (.nck (t 33)),f 35 8 34,l 36 35,m 37 36,g 38 37 false (.fad 4 (t 3)),g 39 37 false (.ld (t 38)),
 g 40 37 false (.bin .neq (t 39) (c E)),p 41 37 40,o 42 (.nck (t 32)),f 43 8 42,O (.st (t 43) (t 41))]]) (q [r [f 45 3 3,l 46 45,m 44 46],k 44
 (r [m 47 0,o 48 (.nck (t 47)),f 49 1 48,l 50 49,f 52 2 3,l 53 52,C 51 33 [(t 50)],(.chk 53 none (.ld (t 52))),C 54 104 [(t 51),(t 53)]]) (r [m 5 0,
 o 6 (.nck (t 5)),f 7 1 6,l 8 7,f 10 2 3,l 11 10,C 9 32 [(t 8)],(.chk 11 none (.ld (t 10))),C 12 104 [(t 9),(t 11)]])])])]),r [M 4 (n 0)],.ret]),
 [(.t 4)]⟩:zaa)=y}).1
def k72:zaa:=(⟨_,by first|(simp only[nf];exact rfl)|rfl⟩:{y//(⟨8,(q [r [M 2 Z],q [r [m 3 0,o 4 (.eqv .slice false (t 3) (c Z))],k 4 (q [r [M 2 Z],
 .ret]) .skip],r [o 5 (.bsl 9 0 [] []),m 6 0,o 7 (.app 9 1 16 (t 5) (t 6)),m 2 7],.ret]),[(.t 2)]⟩:zaa)=y}).1
def k73:zaa:=(⟨_,by first|(simp only[nf];exact rfl)|rfl⟩:{y//(⟨13,(q [r [M 4 F],r [m 5 1,u 6 .geq 5 1,m 7 6,h 8 7 true 1,h 9 7 true 0,g 10 7 true
 (.call 105 [(t 9)]),g 11 7 true (.bin .leq (t 8) (t 10)),a 12 7 11,m 4 12],.ret]),[(.t 4)]⟩:zaa)=y}).1
def k74:zaa:=(⟨_,by first|(simp only[nf];exact rfl)|rfl⟩:{y//(⟨2,(q [r [o 0 (.alloc 97 [(.int .u64 0),(.int .u64 0)])],r [o 1
 (.build [(.int .u64 0),(.int .u64 0)] [(0,(1,(c (N 7640891576956012808))))]),O (.stn 2 (t 0) (t 1))],.ret]),[(.cn 0 2)]⟩:zaa)=y}).1
def k75:zaa:=(⟨_,by first|(simp only[nf];exact rfl)|rfl⟩:{y//(⟨17,(q [r [M 4 (n 0)],r [m 5 0,o 6 (.nck (t 5)),f 7 1 6,l 8 7,m 9 1,v 10 .add 8 9,
 m 11 0,o 12 (.nck (t 11)),f 13 0 12,l 14 13,L 15 14,v 16 .rem 10 15,m 4 16],.ret]),[(.t 4)]⟩:zaa)=y}).1
def k80:zaa:=(⟨_,by first|(simp only[nf];exact rfl)|rfl⟩:{y//(⟨13,(q [r [o 3 (.box 3 (t 1)),M 4 (n 0)],q [r [m 5 0,o 6 (.eqv .ptr false (t 5)
 (c P))],k 6 (q [r [M 4 (n (-1))],.ret]) .skip],r [m 7 0,o 8 (.nck (t 7)),f 9 0 8,l 10 9,o 11 (.mkf (.func 115) [] [(t 3)]),C 12 114 [(t 10),(t 11)],
 m 4 12],.ret]),[(.t 4)]⟩:zaa)=y}).1
def b82_0:zae:=(⟨_,by first|(simp only[nf];exact rfl)|rfl⟩:{y//(.block 1 (q [r [m 17 1,C 18 118 [(t 17)],m 16 18,x 19 16 0,x 20 16 1,o 9
 (.alloc 160 [(.int .u8 0),(.int .u64 0),(.bool false)]),O (.stn 3 (t 9) (t 19)),m 10 20],q [r [m 21 10,o 22 (.un .not (t 21))],k 22 (q [r [o 23
 (.build [(.int .i64 0),(.int .i64 0),(.int .i64 0),(.int .i64 0),(.int .u64 0),(.string (bs []))] []),O (.stn 6 (t 6) (t 23)),M 7 F,M 8 (n 0)],
 .ret]) .skip],r [m 24 2,f 25 0 9,l 26 25,o 27 (.callv (t 24) [(t 26)])],r [m 29 0,o 30 (.ldn 3 (t 9)),C 31 119 [(t 29),(t 30)],m 28 31,x 32 28 0,
 x 33 28 1,x 34 28 2,o 11 (.alloc 164 [(.int .i64 0),(.string (bs []))]),O (.stn 2 (t 11) (t 32)),m 12 33,m 13 34],q [r [m 35 13,u 36 .neq 35 0],k 36
 (q [r [o 37 (.build [(.int .i64 0),(.int .i64 0),(.int .i64 0),(.int .i64 0),(.int .u64 0),(.string (bs []))] []),m 38 13,O (.stn 6 (t 6) (t 37)),
 M 7 F,m 8 38],.ret]) .skip],r [m 39 12],k 39 (q [r [o 41 (.ldn 2 (t 11)),C 42 120 [(t 41)],m 40 42,x 43 40 0,x 44 40 1,o 14
 (.alloc 118 [(.int .i64 0),(.int .i64 0),(.int .i64 0),(.int .i64 0),(.int .u64 0),(.string (bs []))]),O (.stn 6 (t 14) (t 43)),m 15 44],r [o 45
 (.ldn 6 (t 14)),m 46 15,u 47 .eql 46 0,m 48 15,O (.stn 6 (t 6) (t 45)),m 7 47,m 8 48],.ret]) .skip]))=y}).1
def k82:zaa:=(⟨_,by first|(simp only[nf];exact rfl)|rfl⟩:{y//(⟨49,(q [r [o 6 (.alloc 118 [(.int .i64 0),(.int .i64 0),(.int .i64 0),(.int .i64 0),
 (.int .u64 0),(.string (bs []))]),M 7 F,M 8 (n 0)],.block 0 (.loop b82_0)]),[(.cn 6 6),(.t 7),(.t 8)]⟩:zaa)=y}).1
def k83:zaa:=(⟨_,by first|(simp only[nf];exact rfl)|rfl⟩:{y//(⟨2,.skip,[]⟩:zaa)=y}).1
def k84:zaa:=(⟨_,by first|(simp only[nf];exact rfl)|rfl⟩:{y//(⟨23,(q [r [o 3 (.box 118 (t 1)),M 4 (n 0)],.block 0 (q [r [m 6 0,o 7 (.eqv .ptr false
 (t 6) (c P)),m 5 7],k 5 (q [r [M 4 (n 1)],.ret]) (q [r [m 9 0,o 10 (.nck (t 9)),f 11 5 10,l 12 11,m 8 12],k 8 (q [r [M 4 (n 9)],.ret]) (q [r [o 14
 (.ldn 6 (t 3)),C 15 121 [(t 14)],o 16 (.un .not (t 15)),m 13 16],k 13 (q [r [M 4 (n 3)],.ret]) .skip])])]),r [f 17 0 3,l 18 17,m 20 0,o 21 (.ldn 6
 (t 3)),C 19 122 [(t 18)],(.chk 21 none (.ldn 6 (t 3))),o 22 (.callv (t 19) [(t 20),(t 21)]),m 4 22],.ret]),[(.t 4)]⟩:zaa)=y}).1
def k86:zaa:=(⟨_,by first|(simp only[nf];exact rfl)|rfl⟩:{y//(⟨27,(q [r [M 6 F],q [r [m 7 0,m 8 1,C 9 73 [(t 7),(t 8)],o 10 (.un .not (t 9)),
 m 11 10,h 12 11 false 2,g 13 11 false (.bin .lss (t 12) (c (n 0))),p 14 11 13,m 15 14,h 16 15 false 2,g 17 15 false (.bin .gtr (t 16) (c (n 400))),
 p 18 15 17],k 18 (q [r [M 6 F],.ret]) .skip],r [m 19 0,o 20 (.nck (t 19)),f 21 0 20,l 22 21,m 23 1,u 24 .sub 23 1,m 25 2,e 26 1 22 24,O (.st (t 26)
 (t 25))],r [M 6 T],.ret]),[(.t 6)]⟩:zaa)=y}).1
def k87:zaa:=(⟨_,by first|(simp only[nf];exact rfl)|rfl⟩:{y//(⟨9,(q [r [M 2 (n 0)],q [r [m 3 0,o 4 (.eqv .ptr false (t 3) (c P))],k 4 (q [r [M 2
 (n 0)],.ret]) .skip],r [m 5 0,o 6 (.nck (t 5)),f 7 7 6,l 8 7,m 2 8],.ret]),[(.t 2)]⟩:zaa)=y}).1
def b88_0:zae:=(⟨_,by first|(simp only[nf];exact rfl)|rfl⟩:{y//(q [r [v 27 .lss 26 25],k 27 .skip (.exit 0),.block 1 (q [r [e 28 1 24 26,l 29 28,
 m 5 29],r [m 31 5,m 32 0,o 33 (.callv (t 31) [(t 32)]),m 30 33,x 34 30 0,x 35 30 1,o 6 (.alloc 118 [(.int .i64 0),(.int .i64 0),(.int .i64 0),
 (.int .i64 0),(.int .u64 0),(.string (bs []))]),O (.stn 6 (t 6) (t 34)),m 7 35],r [m 36 7],k 36 (q [r [o 37 (.ldn 6 (t 6)),O (.stn 6 (t 2) (t 37)),
 M 3 T],.ret]) .skip]),r [u 38 .add 26 1,m 26 38]])=y}).1
def k88:zaa:=(⟨_,by first|(simp only[nf];exact rfl)|rfl⟩:{y//(⟨40,(q [r [o 2 (.alloc 118 [(.int .i64 0),(.int .i64 0),(.int .i64 0),(.int .i64 0),
 (.int .u64 0),(.string (bs []))]),M 3 F],q [r [m 8 0,o 9 (.eqv .ptr false (t 8) (c P)),m 10 9,h 11 10 false 0,g 12 10 false (.nck (t 11)),
 g 13 10 false (.fad 5 (t 12)),g 14 10 false (.ld (t 13)),p 15 10 14,m 16 15,h 17 16 false 0,g 18 16 false (.nck (t 17)),g 19 16 false (.fad 3
 (t 18)),g 20 16 false (.ld (t 19)),g 21 16 false (.un .not (t 20)),p 22 16 21],k 22 (q [r [o 23 (.build [(.int .i64 0),(.int .i64 0),(.int .i64 0),
 (.int .i64 0),(.int .u64 0),(.string (bs []))] []),O (.stn 6 (t 2) (t 23)),M 3 F],.ret]) .skip],q [r [o 24 (.bsl 172 6 [.nilFunc,.nilFunc,.nilFunc,
 .nilFunc,.nilFunc,.nilFunc] [(0,(1,(c (.func (.func 123) ([]).toArray ([]).toArray)))),(1,(1,(c (.func (.func 124) ([]).toArray ([]).toArray)))),(2,
 (1,(c (.func (.func 125) ([]).toArray ([]).toArray)))),(3,(1,(c (.func (.func 126) ([]).toArray ([]).toArray)))),(4,(1,(c (.func (.func 127)
 ([]).toArray ([]).toArray)))),(5,(1,(c (.func (.func 128) ([]).toArray ([]).toArray))))]),L 25 24,M 26 (n 0)],.block 0 (.loop b88_0)],r [o 39
 (.build [(.int .i64 0),(.int .i64 0),(.int .i64 0),(.int .i64 0),(.int .u64 0),(.string (bs []))] []),O (.stn 6 (t 2) (t 39)),M 3 F],.ret]),
 [(.cn 2 6),(.t 3)]⟩:zaa)=y}).1
def k89:zaa:=(⟨_,by first|(simp only[nf];exact rfl)|rfl⟩:{y//(⟨32,(r [m 10 0,m 11 0,o 12 (.nck (t 11)),f 13 10 12,l 14 13,m 15 2,m 16 1,o 17 (.nck
 (t 16)),f 18 11 17,l 19 18,m 20 1,o 21 (.nck (t 20)),f 22 1 21,l 23 22,m 25 3,m 26 4,C 24 52 [(t 23)],(.chk 14 none (.ld (t 13))),(.chk 19 none (.ld
 (t 18))),o 27 (.build [(.int .i64 0),(.int .i64 0),(.int .i64 0),(.int .i64 0),(.string (bs []))] [(0,(1,(t 15))),(1,(1,(t 19))),(2,(1,(t 24))),(3,
 (1,(t 25))),(4,(1,(t 26)))]),o 28 (.bsl 77 1 [(.int .i64 0),(.int .i64 0),(.int .i64 0),(.int .i64 0),(.string (bs []))] [(0,(5,(t 27)))]),
 (.chk 14 none (.ld (t 13))),o 29 (.app 77 5 48 (t 14) (t 28)),o 30 (.nck (t 10)),f 31 10 30,O (.st (t 31) (t 29))]),[]⟩:zaa)=y}).1
def k90:zaa:=(⟨_,by first|(simp only[nf];exact rfl)|rfl⟩:{y//(⟨20,(q [r [M 2 E],q [r [m 5 0,o 6 (.eqv .ptr false (t 5) (c P))],k 6 (q [r [M 2 E],
 .ret]) .skip],r [m 8 0,o 9 (.nck (t 8)),f 10 1 9,l 11 10,m 12 0,o 13 (.nck (t 12)),f 14 8 13,l 15 14,C 16 58 [(t 11),(t 15)],m 7 16,x 17 7 0,
 x 18 7 1,m 3 17,m 4 18],r [m 19 3,m 2 19],.ret]),[(.t 2)]⟩:zaa)=y}).1
def k91:zaa:=(⟨_,by first|(simp only[nf];exact rfl)|rfl⟩:{y//(⟨18,(q [r [o 1 (.box 118 (t 0)),M 2 E,M 3 (n 0)],r [o 7 (.ldn 6 (t 1)),
 C 8 129 [(t 7)],m 6 8,x 9 6 0,x 10 6 1,o 4 (.alloc 164 [(.int .i64 0),(.string (bs []))]),O (.stn 2 (t 4) (t 9)),m 5 10],q [r [m 11 5,
 u 12 .neq 11 0],k 12 (q [r [m 13 5,M 2 E,m 3 13],.ret]) .skip],r [o 14 (.ldn 2 (t 4)),C 15 130 [(t 14)],x 16 15 0,x 17 15 1,m 2 16,m 3 17],.ret]),
 [(.t 2),(.t 3)]⟩:zaa)=y}).1
def k92:zaa:=(⟨_,by first|(simp only[nf];exact rfl)|rfl⟩:{y//(⟨34,(q [r [m 2 0,o 3 (.nck (t 2)),f 4 6 3,l 5 4,o 6 (.bin .neq (t 5) (c E)),m 7 6,
 h 8 7 true 0,g 9 7 true (.nck (t 8)),g 10 7 true (.fad 1 (t 9)),g 11 7 true (.ld (t 10)),h 13 7 true 0,g 14 7 true (.nck (t 13)),g 15 7 true (.fad 6
 (t 14)),g 16 7 true (.ld (t 15)),g 12 7 true (.call 32 [(t 11)]),(.chk 16 (some (7,true)) (.ld (t 15))),g 17 7 true (.call 131 [(t 12),(t 16)]),
 a 18 7 17],k 18 (q [r [m 19 0,m 20 0,o 21 (.nck (t 20)),f 22 9 21,l 23 22,m 24 0,o 25 (.nck (t 24)),f 26 6 25,l 27 26,o 28 (.appS 5 (t 23) (t 27)),
 o 29 (.nck (t 19)),f 30 9 29,O (.st (t 30) (t 28))],r [m 31 0,o 32 (.nck (t 31)),f 33 6 32,O (.st (t 33) (c E))]]) .skip]),[]⟩:zaa)=y}).1
def k93:zaa:=(⟨_,by first|(simp only[nf];exact rfl)|rfl⟩:{y//(⟨37,(q [r [M 2 F],q [r [m 3 0,o 4 (.nck (t 3)),f 5 7 4,l 6 5,L 7 6,u 8 .gtr 7 0,m 9 8,
 h 10 9 true 0,g 11 9 true (.nck (t 10)),g 12 9 true (.fad 1 (t 11)),g 13 9 true (.ld (t 12)),h 15 9 true 0,g 16 9 true (.nck (t 15)),g 17 9 true
 (.fad 7 (t 16)),g 18 9 true (.ld (t 17)),g 19 9 true (.iad 1 (t 18) (c (n 0))),g 20 9 true (.ld (t 19)),g 14 9 true (.call 33 [(t 13)]),(.chk 18
 (some (9,true)) (.ld (t 17))),(.chk 20 (some (9,true)) (.ld (t 19))),g 21 9 true (.call 131 [(t 14),(t 20)]),a 22 9 21],k 22 (r [m 23 0,m 24 0,o 25
 (.nck (t 24)),f 26 7 25,l 27 26,o 28 (.slc 9 1 (t 27) (some (c (n 1))) none),o 29 (.nck (t 23)),f 30 7 29,O (.st (t 30) (t 28))]) .skip],r [m 31 0,
 o 32 (.nck (t 31)),f 33 7 32,l 34 33,L 35 34,u 36 .eql 35 0,m 2 36],.ret]),[(.t 2)]⟩:zaa)=y}).1
def k94:zaa:=(⟨_,by first|(simp only[nf];exact rfl)|rfl⟩:{y//(⟨13,(r [l 3 1,l 4 1,o 5 (.nck (t 4)),f 6 10 5,l 7 6,m 8 0,o 9
 (.bsl 5 1 [(.int .u8 0)] [(0,(1,(t 8)))]),(.chk 3 none (.ld (t 1))),(.chk 4 none (.ld (t 1))),(.chk 7 none (.ld (t 6))),o 10 (.app 5 1 1 (t 7)
 (t 9)),(.chk 3 none (.ld (t 1))),o 11 (.nck (t 3)),f 12 10 11,O (.st (t 12) (t 10))]),[]⟩:zaa)=y}).1
def k95:zaa:=(⟨_,by first|(simp only[nf];exact rfl)|rfl⟩:{y//(⟨53,(q [r [o 5 (.box 118 (t 2)),M 6 (n 0)],q [r [m 13 1,o 14 (.ldn 6 (t 5)),
 C 15 132 [(t 13),(t 14)],m 12 15,x 16 12 0,x 17 12 1,m 7 16,m 8 17],r [m 18 8],k 18 (r [m 19 0,m 20 1,f 21 1 5,l 22 21,m 23 7,C 24 89 [(t 19),(t 20),
 (c (n 2)),(t 22),(t 23)]]) .skip],r [m 26 1,o 27 (.nck (t 26)),f 28 3 27,l 29 28,o 30 (.ldn 6 (t 5)),C 31 133 [(t 29),(t 30)],m 25 31,x 32 25 0,
 x 33 25 1,x 34 25 2,o 9 (.alloc 118 [(.int .i64 0),(.int .i64 0),(.int .i64 0),(.int .i64 0),(.int .u64 0),(.string (bs []))]),(.chk 29 none (.ld
 (t 28))),(.chk 30 none (.ldn 6 (t 5))),O (.stn 6 (t 9) (t 32)),m 10 33,m 11 34],q [r [m 35 11,u 36 .neq 35 0],k 36 (q [r [m 37 11,m 6 37],
 .ret]) .skip],q [r [f 38 0 5,l 39 38,u 40 .eql 39 10],k 40 (r [m 41 0,m 42 1,m 43 1,o 44 (.nck (t 43)),f 45 0 44,l 46 45,C 47 50 [(t 46)],
 C 48 89 [(t 41),(t 42),(c (n 4)),(t 47),(c E)]]) .skip],q [r [m 49 10],k 49 (r [m 50 1,o 51 (.ldn 6 (t 9)),C 52 101 [(t 50),(t 51)]]) .skip],r [M 6
 (n 0)],.ret]),[(.t 6)]⟩:zaa)=y}).1
def k98:zaa:=(⟨_,by first|(simp only[nf];exact rfl)|rfl⟩:{y//(⟨23,(q [r [M 2 F],q [r [m 3 0,o 4 (.eqv .ptr false (t 3) (c P)),m 5 4,h 6 5 false 0,
 g 7 5 false (.nck (t 6)),g 8 5 false (.fad 2 (t 7)),g 9 5 false (.ld (t 8)),p 10 5 9],k 10 (q [r [M 2 F],.ret]) .skip],r [m 11 0,C 12 134 [(t 11)]],
 r [m 13 0,o 14 (.nck (t 13)),f 15 2 14,O (.st (t 15) (c T))],r [m 16 0,o 17 (.nck (t 16)),f 18 3 17,l 19 18,u 20 .add 19 1,o 21 (.nck (t 16)),
 f 22 3 21,O (.st (t 22) (t 20))],r [M 2 T],.ret]),[(.t 2)]⟩:zaa)=y}).1
def k99:zaa:=(⟨_,by first|(simp only[nf];exact rfl)|rfl⟩:{y//(⟨6,(q [r [M 2 P],r [m 3 0,o 4 (.build [(.pointer none),(.bool false),(.int .i64 0),
 (.pointer none),(.int .i64 0)] [(0,(1,(t 3)))]),o 5 (.box 181 (t 4)),m 2 5],.ret]),[(.t 2)]⟩:zaa)=y}).1
def k100:zaa:=(⟨_,by first|(simp only[nf];exact rfl)|rfl⟩:{y//(⟨4,(q [r [M 0 P],r [C 1 74 [],o 2 (.build [(.slice none 0 0),(.int .u64 0),
 (.int .u64 0),(.int .i64 0),(.int .i64 0)] [(1,(2,(t 1)))]),o 3 (.box 183 (t 2)),m 0 3],.ret]),[(.t 0)]⟩:zaa)=y}).1
def k101:zaa:=(⟨_,by first|(simp only[nf];exact rfl)|rfl⟩:{y//(⟨23,(q [r [o 3 (.box 118 (t 1))],r [o 7 (.ldn 6 (t 3)),C 8 91 [(t 7)],m 6 8,x 9 6 0,
 x 10 6 1,m 4 9,m 5 10],r [m 11 5,u 12 .eql 11 0],k 12 (r [m 13 0,m 14 0,o 15 (.nck (t 14)),f 16 7 15,l 17 16,m 18 4,o 19 (.bsl 9 1 [(.string
 (bs []))] [(0,(1,(t 18)))]),o 20 (.app 9 1 16 (t 17) (t 19)),o 21 (.nck (t 13)),f 22 7 21,O (.st (t 22) (t 20))]) .skip]),[]⟩:zaa)=y}).1
def k102:zaa:=(⟨_,by first|(simp only[nf];exact rfl)|rfl⟩:{y//(⟨17,(q [r [o 2 (.alloc 118 [(.int .i64 0),(.int .i64 0),(.int .i64 0),(.int .i64 0),
 (.int .u64 0),(.string (bs []))])],q [r [m 3 0,o 4 (.eqv .ptr false (t 3) (c P))],k 4 (q [r [o 5 (.build [(.int .i64 0),(.int .i64 0),(.int .i64 0),
 (.int .i64 0),(.int .u64 0),(.string (bs []))] []),O (.stn 6 (t 2) (t 5))],.ret]) .skip],r [m 6 0,o 7 (.nck (t 6)),f 8 0 7,l 9 8,m 11 0,o 12 (.nck
 (t 11)),f 13 0 12,l 14 13,C 10 50 [(t 9)],(.chk 14 none (.ld (t 13))),C 15 136 [(t 14)],o 16 (.build [(.int .i64 0),(.int .i64 0),(.int .i64 0),
 (.int .i64 0),(.int .u64 0),(.string (bs []))] [(0,(1,(c (n 1)))),(1,(1,(t 10))),(2,(1,(t 15)))]),O (.stn 6 (t 2) (t 16))],.ret]),
 [(.cn 2 6)]⟩:zaa)=y}).1
def k104:zaa:=(⟨_,by first|(simp only[nf];exact rfl)|rfl⟩:{y//(⟨36,(q [r [M 4 (n 0)],r [m 5 1,o 6 (.mx (t 5) [(c (n 0))]),m 7 0,C 8 34 [(t 7)],o 9
 (.mn (t 6) [(t 8)]),m 1 9],q [r [m 10 1,u 11 .gtr 10 0],k 11 (q [r [m 12 0,m 13 0,o 14 (.nck (t 13)),f 15 2 14,l 16 15,m 17 0,o 18 (.nck (t 17)),
 f 19 1 18,l 20 19,m 21 1,o 22 (.slc 160 3 (t 20) none (some (t 21))),o 23 (.app 160 3 24 (t 16) (t 22)),o 24 (.nck (t 12)),f 25 2 24,O (.st (t 25)
 (t 23))],r [m 26 0,m 27 0,o 28 (.nck (t 27)),f 29 1 28,l 30 29,m 31 1,o 32 (.slc 160 3 (t 30) (some (t 31)) none),o 33 (.nck (t 26)),f 34 1 33,O
 (.st (t 34) (t 32))]]) .skip],r [m 35 1,m 4 35],.ret]),[(.t 4)]⟩:zaa)=y}).1
def k105:zaa:=(⟨_,by first|(simp only[nf];exact rfl)|rfl⟩:{y//(⟨10,(q [r [M 2 (n 0)],q [r [m 3 0,o 4 (.eqv .ptr false (t 3) (c P))],k 4 (q [r [M 2
 (n 0)],.ret]) .skip],r [m 5 0,o 6 (.nck (t 5)),f 7 0 6,l 8 7,L 9 8,m 2 9],.ret]),[(.t 2)]⟩:zaa)=y}).1
def b114_0:zae:=(⟨_,by first|(simp only[nf];exact rfl)|rfl⟩:{y//(q [r [v 9 .lss 8 7],k 9 .skip (.exit 0),.block 1 (q [r [m 10 8,m 5 10],r [m 11 1,
 m 12 0,m 13 5,e 14 3 12 13,o 15 (.ldn 3 (t 14)),o 16 (.callv (t 11) [(t 15)])],k 16 (q [r [m 17 5,m 4 17],.ret]) .skip]),r [u 18 .add 8 1,
 m 8 18]])=y}).1
def k114:zaa:=(⟨_,by first|(simp only[nf];exact rfl)|rfl⟩:{y//(⟨19,(q [r [M 4 (n 0)],q [r [m 6 0,L 7 6,M 8 (n 0)],.block 0 (.loop b114_0)],r [M 4
 (n (-1))],.ret]),[(.t 4)]⟩:zaa)=y}).1
def k118:zaa:=(⟨_,by first|(simp only[nf];exact rfl)|rfl⟩:{y//(⟨24,(q [r [o 2 (.alloc 160 [(.int .u8 0),(.int .u64 0),(.bool false)]),M 3 F],
 q [r [m 5 0,C 6 35 [(t 5)],u 7 .eql 6 0],k 7 (q [r [o 8 (.build [(.int .u8 0),(.int .u64 0),(.bool false)] []),O (.stn 3 (t 2) (t 8)),M 3 F],
 .ret]) .skip],r [m 9 0,o 10 (.nck (t 9)),f 11 2 10,l 12 11,o 13 (.iad 3 (t 12) (c (n 0))),o 14 (.ldn 3 (t 13)),o 4 (.alloc 160 [(.int .u8 0),
 (.int .u64 0),(.bool false)]),O (.stn 3 (t 4) (t 14))],r [m 15 0,m 16 0,o 17 (.nck (t 16)),f 18 2 17,l 19 18,o 20 (.slc 160 3 (t 19) (some (c
 (n 1))) none),o 21 (.nck (t 15)),f 22 2 21,O (.st (t 22) (t 20))],r [o 23 (.ldn 3 (t 4)),O (.stn 3 (t 2) (t 23)),M 3 T],.ret]),[(.cn 2 3),
 (.t 3)]⟩:zaa)=y}).1
def k119:zaa:=(⟨_,by first|(simp only[nf];exact rfl)|rfl⟩:{y//(⟨62,(q [r [o 3 (.box 160 (t 1)),o 4 (.alloc 164 [(.int .i64 0),(.string (bs []))]),
 M 5 F,M 6 (n 0)],q [r [m 9 0,C 10 146 [(t 9)],u 11 .neq 10 0],k 11 (q [r [o 12 (.build [(.int .i64 0),(.string (bs []))] []),m 13 0,
 C 14 146 [(t 13)],O (.stn 2 (t 4) (t 12)),M 5 F,m 6 14],.ret]) .skip],q [r [m 15 0,f 16 0 3,l 17 16,C 18 147 [(t 15),(t 17)],o 19 (.un .not (t 18))],
 k 19 (q [r [o 20 (.build [(.int .i64 0),(.string (bs []))] []),m 21 0,o 22 (.nck (t 21)),f 23 3 22,l 24 23,O (.stn 2 (t 4) (t 20)),(.chk 24 none
 (.ld (t 23))),M 5 F,m 6 24],.ret]) .skip],r [m 26 0,o 27 (.nck (t 26)),f 28 0 27,l 29 28,C 30 148 [(t 29)],m 25 30,x 31 25 0,x 32 25 1,o 7
 (.alloc 164 [(.int .i64 0),(.string (bs []))]),O (.stn 2 (t 7) (t 31)),m 8 32],q [r [m 33 8,u 34 .eql 33 0,m 35 34,g 36 35 true (.fad 2 (t 3)),
 g 37 35 true (.ld (t 36)),g 38 35 true (.un .not (t 37)),h 39 35 true 38,g 40 39 false (.fad 1 (t 3)),g 41 39 false (.ld (t 40)),h 42 39 false 0,
 g 43 39 false (.nck (t 42)),g 44 39 false (.fad 1 (t 43)),g 45 39 false (.ldn 2 (t 44)),g 46 39 false (.call 149 [(t 45)]),(.chk 41 (some (39,
 false)) (.ld (t 40))),g 47 39 false (.bin .neq (t 41) (t 46)),g 48 35 true (.pick (t 39) (c T) (t 47)),a 49 35 48],k 49 (r [M 8 (n 4)]) .skip],
 q [r [m 50 0,m 51 8,o 52 (.nck (t 50)),f 53 3 52,O (.st (t 53) (t 51))],r [m 54 8,u 55 .neq 54 0],k 55 (q [r [o 56 (.build [(.int .i64 0),(.string
 (bs []))] []),m 57 8,O (.stn 2 (t 4) (t 56)),M 5 F,m 6 57],.ret]) .skip],r [m 58 0,o 59 (.nck (t 58)),f 60 0 59,O (.st (t 60) (c Z))],r [o 61
 (.ldn 2 (t 7)),O (.stn 2 (t 4) (t 61)),M 5 T,M 6 (n 0)],.ret]),[(.cn 4 2),(.t 5),(.t 6)]⟩:zaa)=y}).1
def k120:zaa:=(⟨_,by first|(simp only[nf];exact rfl)|rfl⟩:{y//(⟨23,(q [r [o 1 (.box 164 (t 0)),o 2 (.alloc 118 [(.int .i64 0),(.int .i64 0),
 (.int .i64 0),(.int .i64 0),(.int .u64 0),(.string (bs []))]),M 3 (n 0)],r [f 7 0 1,l 8 7,f 9 1 1,l 10 9,C 11 150 [(t 8),(t 10)],m 6 11,x 12 6 0,
 x 13 6 1,o 4 (.alloc 118 [(.int .i64 0),(.int .i64 0),(.int .i64 0),(.int .i64 0),(.int .u64 0),(.string (bs []))]),O (.stn 6 (t 4) (t 12)),m 5 13],
 q [r [m 14 5,o 15 (.un .not (t 14)),m 16 15,g 17 16 false (.ldn 6 (t 4)),g 18 16 false (.call 151 [(t 17)]),g 19 16 false (.un .not (t 18)),
 p 20 16 19],k 20 (q [r [o 21 (.build [(.int .i64 0),(.int .i64 0),(.int .i64 0),(.int .i64 0),(.int .u64 0),(.string (bs []))] []),O (.stn 6 (t 2)
 (t 21)),M 3 (n 3)],.ret]) .skip],r [o 22 (.ldn 6 (t 4)),O (.stn 6 (t 2) (t 22)),M 3 (n 0)],.ret]),[(.cn 2 6),(.t 3)]⟩:zaa)=y}).1
def k121:zaa:=(⟨_,by first|(simp only[nf];exact rfl)|rfl⟩:{y//(⟨44,(q [r [o 1 (.box 118 (t 0)),M 2 F],q [r [f 6 1 1,l 7 6,u 8 .lss 7 0,m 9 8,
 g 10 9 false (.fad 2 (t 1)),g 11 9 false (.ld (t 10)),g 12 9 false (.bin .lss (t 11) (c (n 0))),p 13 9 12,m 14 13,g 15 14 false (.fad 3 (t 1)),
 g 16 14 false (.ld (t 15)),g 17 14 false (.bin .lss (t 16) (c (n 0))),p 18 14 17,m 19 18,g 20 19 false (.ldn 6 (t 1)),g 21 19 false
 (.call 151 [(t 20)]),g 22 19 false (.un .not (t 21)),p 23 19 22],k 23 (q [r [M 2 F],.ret]) .skip],r [o 25 (.ldn 6 (t 1)),C 26 152 [(t 25)],m 24 26,
 x 27 24 0,x 28 24 1,m 3 27,m 4 28],q [r [m 29 4,o 30 (.un .not (t 29))],k 30 (q [r [M 2 F],.ret]) .skip],r [f 32 0 1,l 33 32,m 34 3,C 35 150 [(t 33),
 (t 34)],m 31 35,x 36 31 0,x 37 31 1,o 5 (.alloc 118 [(.int .i64 0),(.int .i64 0),(.int .i64 0),(.int .i64 0),(.int .u64 0),(.string (bs []))]),O
 (.stn 6 (t 5) (t 36)),m 4 37],r [m 38 4,m 39 38,g 40 39 true (.ldn 6 (t 5)),g 41 39 true (.ldn 6 (t 1)),g 42 39 true (.eqv (.agg [.int,.int,.int,
 .int,.int,.str]) false (t 40) (t 41)),a 43 39 42,m 2 43],.ret]),[(.t 2)]⟩:zaa)=y}).1
def k122:zaa:=(⟨_,by first|(simp only[nf];exact rfl)|rfl⟩:{y//(⟨10,(q [r [M 2 .nilFunc],q [r [m 3 0],.block 0 (q [r [u 5 .eql 3 1,m 4 5],k 4
 (q [r [M 2 (.func (.func 153) ([]).toArray ([]).toArray)],.ret]) (q [r [u 7 .eql 3 4,m 6 7],k 6 (q [r [M 2 (.func (.func 154) ([]).toArray
 ([]).toArray)],.ret]) (q [r [u 9 .eql 3 7,m 8 9],k 8 (q [r [M 2 (.func (.func 155) ([]).toArray ([]).toArray)],.ret]) .skip])])])],r [M 2 (.func
 (.func 156) ([]).toArray ([]).toArray)],.ret]),[(.t 2)]⟩:zaa)=y}).1
def k123:zaa:=(⟨_,by first|(simp only[nf];exact rfl)|rfl⟩:{y//(⟨22,(q [r [o 2 (.alloc 118 [(.int .i64 0),(.int .i64 0),(.int .i64 0),(.int .i64 0),
 (.int .u64 0),(.string (bs []))]),M 3 F],q [r [m 4 0,o 5 (.nck (t 4)),f 6 4 5,l 7 6,o 8 (.un .not (t 7))],k 8 (q [r [o 9 (.build [(.int .i64 0),
 (.int .i64 0),(.int .i64 0),(.int .i64 0),(.int .u64 0),(.string (bs []))] []),O (.stn 6 (t 2) (t 9)),M 3 F],.ret]) .skip],r [m 10 0,o 11 (.nck
 (t 10)),f 12 4 11,O (.st (t 12) (c F))],r [m 13 0,o 14 (.nck (t 13)),f 15 6 14,l 16 15,m 17 0,o 18 (.nck (t 17)),f 19 8 18,l 20 19,o 21
 (.build [(.int .i64 0),(.int .i64 0),(.int .i64 0),(.int .i64 0),(.int .u64 0),(.string (bs []))] [(0,(1,(c (n 2)))),(1,(1,(t 16))),(2,(1,(t 20)))]),
 O (.stn 6 (t 2) (t 21)),M 3 T],.ret]),[(.cn 2 6),(.t 3)]⟩:zaa)=y}).1
def k124:zaa:=(⟨_,by first|(simp only[nf];exact rfl)|rfl⟩:{y//(⟨43,(q [r [o 2 (.alloc 118 [(.int .i64 0),(.int .i64 0),(.int .i64 0),(.int .i64 0),
 (.int .u64 0),(.string (bs []))]),M 3 F],q [r [m 4 0,o 5 (.nck (t 4)),f 6 10 5,l 7 6,o 8 (.un .not (t 7)),m 9 8,h 10 9 false 0,g 11 9 false (.nck
 (t 10)),g 12 9 false (.fad 11 (t 11)),g 13 9 false (.ld (t 12)),p 14 9 13],k 14 (q [r [o 15 (.build [(.int .i64 0),(.int .i64 0),(.int .i64 0),
 (.int .i64 0),(.int .u64 0),(.string (bs []))] []),O (.stn 6 (t 2) (t 15)),M 3 F],.ret]) .skip],r [m 16 0,o 17 (.nck (t 16)),f 18 1 17,l 19 18,
 m 20 0,o 21 (.nck (t 20)),f 22 8 21,l 23 22,C 24 135 [(t 19),(t 23)]],r [m 25 0,m 26 0,m 27 0,m 28 0,o 29 (.nck (t 28)),f 30 9 29,l 31 30,o 32 (.nck
 (t 25)),f 33 8 32,O (.st (t 33) (t 31)),o 34 (.nck (t 26)),f 35 9 34,O (.st (t 35) (c (n 0))),o 36 (.nck (t 27)),f 37 10 36,O (.st (t 37) (c F))],
 r [m 38 0,o 39 (.nck (t 38)),f 40 8 39,l 41 40,o 42 (.build [(.int .i64 0),(.int .i64 0),(.int .i64 0),(.int .i64 0),(.int .u64 0),(.string
 (bs []))] [(0,(1,(c (n 5)))),(2,(1,(t 41)))]),O (.stn 6 (t 2) (t 42)),M 3 T],.ret]),[(.cn 2 6),(.t 3)]⟩:zaa)=y}).1
def k125:zaa:=(⟨_,by first|(simp only[nf];exact rfl)|rfl⟩:{y//(⟨53,(q [r [o 2 (.alloc 118 [(.int .i64 0),(.int .i64 0),(.int .i64 0),(.int .i64 0),
 (.int .u64 0),(.string (bs []))]),M 3 F],q [r [m 6 0,o 7 (.nck (t 6)),f 8 11 7,l 9 8,o 10 (.un .not (t 9))],k 10 (q [r [o 11 (.build [(.int .i64 0),
 (.int .i64 0),(.int .i64 0),(.int .i64 0),(.int .u64 0),(.string (bs []))] []),O (.stn 6 (t 2) (t 11)),M 3 F],.ret]) .skip],q [r [m 12 0,o 13 (.nck
 (t 12)),f 14 12 13,l 15 14,m 16 0,o 17 (.nck (t 16)),f 18 13 17,l 19 18,C 20 157 [(t 15),(t 19)],m 4 20],r [m 21 4,o 22 (.bin .neq (t 21) (c E))],
 k 22 (q [r [m 23 0,o 24 (.nck (t 23)),f 25 13 24,l 26 25,m 27 4,o 28 (.build [(.int .i64 0),(.int .i64 0),(.int .i64 0),(.int .i64 0),(.int .u64 0),
 (.string (bs []))] [(0,(1,(c (n 9)))),(3,(1,(t 26))),(5,(1,(t 27)))]),o 5 (.alloc 118 [(.int .i64 0),(.int .i64 0),(.int .i64 0),(.int .i64 0),
 (.int .u64 0),(.string (bs []))]),O (.stn 6 (t 5) (t 28))],r [m 29 0,o 30 (.nck (t 29)),f 31 13 30,l 32 31,m 33 4,o 34 (.lenS (t 33)),
 v 35 .add 32 34,o 36 (.nck (t 29)),f 37 13 36,O (.st (t 37) (t 35))],r [o 38 (.ldn 6 (t 5)),O (.stn 6 (t 2) (t 38)),M 3 T],.ret]) .skip],r [m 39 0,
 m 40 0,m 41 0,m 42 0,o 43 (.nck (t 42)),f 44 14 43,l 45 44,o 46 (.nck (t 39)),f 47 11 46,O (.st (t 47) (c F)),o 48 (.nck (t 40)),f 49 12 48,O (.st
 (t 49) (c E)),o 50 (.nck (t 41)),f 51 6 50,O (.st (t 51) (t 45))],r [o 52 (.build [(.int .i64 0),(.int .i64 0),(.int .i64 0),(.int .i64 0),
 (.int .u64 0),(.string (bs []))] [(0,(1,(c (n 10))))]),O (.stn 6 (t 2) (t 52)),M 3 T],.ret]),[(.cn 2 6),(.t 3)]⟩:zaa)=y}).1
def k126:zaa:=(⟨_,by first|(simp only[nf];exact rfl)|rfl⟩:{y//(⟨65,(q [r [o 2 (.alloc 118 [(.int .i64 0),(.int .i64 0),(.int .i64 0),(.int .i64 0),
 (.int .u64 0),(.string (bs []))]),M 3 F],r [m 9 0,o 10 (.nck (t 9)),f 11 1 10,l 12 11,C 13 59 [(t 12)],m 4 13],q [r [m 14 0,o 15 (.nck (t 14)),
 f 16 9 15,l 17 16,u 18 .neq 17 0,m 19 18,h 20 19 false 4,h 21 19 false 0,g 22 19 false (.nck (t 21)),g 23 19 false (.fad 8 (t 22)),g 24 19 false
 (.ld (t 23)),g 25 19 false (.bin .eql (t 20) (t 24)),p 26 19 25,m 27 26,h 28 27 false 4,g 29 27 false (.bin .eql (t 28) (c (n 0))),p 30 27 29],k 30
 (q [r [o 31 (.build [(.int .i64 0),(.int .i64 0),(.int .i64 0),(.int .i64 0),(.int .u64 0),(.string (bs []))] []),O (.stn 6 (t 2) (t 31)),M 3 F],
 .ret]) .skip],r [m 33 0,o 34 (.nck (t 33)),f 35 1 34,l 36 35,m 37 4,C 38 58 [(t 36),(t 37)],m 32 38,x 39 32 0,x 40 32 1,m 5 39,m 6 40],q [r [m 41 6,
 o 42 (.un .not (t 41)),m 43 42,h 44 43 false 0,g 45 43 false (.nck (t 44)),g 46 43 false (.fad 1 (t 45)),g 47 43 false (.ld (t 46)),h 48 43 false 4,
 g 49 43 false (.call 158 [(t 47),(t 48)]),g 50 43 false (.un .not (t 49)),p 51 43 50],k 51 (q [r [o 52 (.build [(.int .i64 0),(.int .i64 0),
 (.int .i64 0),(.int .i64 0),(.int .u64 0),(.string (bs []))] []),O (.stn 6 (t 2) (t 52)),M 3 F],.ret]) .skip],r [m 53 0,m 54 4,o 55 (.nck (t 53)),
 f 56 9 55,O (.st (t 56) (t 54))],r [m 58 5,C 59 159 [(t 58)],m 57 59,x 60 57 0,x 61 57 1,m 7 60,m 8 61],r [m 62 4,m 63 7,o 64 (.build [(.int .i64 0),
 (.int .i64 0),(.int .i64 0),(.int .i64 0),(.int .u64 0),(.string (bs []))] [(0,(1,(c (n 3)))),(2,(1,(t 62))),(5,(1,(t 63)))]),O (.stn 6 (t 2)
 (t 64)),M 3 T],.ret]),[(.cn 2 6),(.t 3)]⟩:zaa)=y}).1
def k127:zaa:=(⟨_,by first|(simp only[nf];exact rfl)|rfl⟩:{y//(⟨57,(q [r [o 2 (.alloc 118 [(.int .i64 0),(.int .i64 0),(.int .i64 0),(.int .i64 0),
 (.int .u64 0),(.string (bs []))]),M 3 F],q [r [m 7 0,o 8 (.nck (t 7)),f 9 6 8,l 10 9,m 11 0,o 12 (.nck (t 11)),f 13 0 12,l 14 13,C 15 42 [(t 14)],
 (.chk 10 none (.ld (t 9))),v 16 .geq 10 15],k 16 (q [r [o 17 (.build [(.int .i64 0),(.int .i64 0),(.int .i64 0),(.int .i64 0),(.int .u64 0),(.string
 (bs []))] []),O (.stn 6 (t 2) (t 17)),M 3 F],.ret]) .skip],r [m 18 0,o 19 (.nck (t 18)),f 20 0 19,l 21 20,C 22 160 [(t 21)],m 4 22],r [m 24 4,m 25 0,
 o 26 (.nck (t 25)),f 27 2 26,l 28 27,C 29 161 [(t 24),(t 28)],m 23 29,x 30 23 0,x 31 23 1,m 5 30,m 6 31],q [r [m 32 6,u 33 .neq 32 0],k 33
 (q [r [o 34 (.build [(.int .i64 0),(.int .i64 0),(.int .i64 0),(.int .i64 0),(.int .u64 0),(.string (bs []))] []),O (.stn 6 (t 2) (t 34)),M 3 F],
 .ret]) .skip],r [m 35 0,m 36 0,m 37 0,m 38 0,m 39 5,m 40 4,L 41 40,o 42 (.nck (t 35)),f 43 11 42,O (.st (t 43) (c T)),o 44 (.nck (t 36)),f 45 12 44,
 O (.st (t 45) (t 39)),o 46 (.nck (t 37)),f 47 13 46,O (.st (t 47) (c (n 0))),o 48 (.nck (t 38)),f 49 14 48,O (.st (t 49) (t 41))],r [m 50 4,L 51 50,
 m 52 5,o 53 (.lenS (t 52)),m 54 5,C 55 162 [(t 54)],o 56 (.build [(.int .i64 0),(.int .i64 0),(.int .i64 0),(.int .i64 0),(.int .u64 0),(.string
 (bs []))] [(0,(1,(c (n 8)))),(1,(1,(t 51))),(3,(1,(t 53))),(4,(1,(t 55)))]),O (.stn 6 (t 2) (t 56)),M 3 T],.ret]),[(.cn 2 6),(.t 3)]⟩:zaa)=y}).1
def k128:zaa:=(⟨_,by first|(simp only[nf];exact rfl)|rfl⟩:{y//(⟨55,(q [r [o 2 (.alloc 118 [(.int .i64 0),(.int .i64 0),(.int .i64 0),(.int .i64 0),
 (.int .u64 0),(.string (bs []))]),M 3 F],r [m 9 0,o 10 (.nck (t 9)),f 11 0 10,l 12 11,m 13 0,o 14 (.nck (t 13)),f 15 6 14,l 16 15,C 17 163 [(t 12),
 (t 16)],m 8 17,x 18 8 0,x 19 8 1,m 4 18,m 5 19],q [r [m 20 5,u 21 .neq 20 0],k 21 (q [r [o 22 (.build [(.int .i64 0),(.int .i64 0),(.int .i64 0),
 (.int .i64 0),(.int .u64 0),(.string (bs []))] []),O (.stn 6 (t 2) (t 22)),M 3 F],.ret]) .skip],r [m 24 4,m 25 0,m 27 0,o 28 (.nck (t 27)),f 29 8 28,
 l 30 29,m 31 0,o 32 (.nck (t 31)),f 33 2 32,l 34 33,C 26 90 [(t 25)],(.chk 30 none (.ld (t 29))),(.chk 34 none (.ld (t 33))),C 35 164 [(t 24),(t 26),
 (t 30),(t 34)],m 23 35,x 36 23 0,x 37 23 1,m 6 36,m 5 37],q [r [m 38 5,u 39 .neq 38 0],k 39 (q [r [o 40 (.build [(.int .i64 0),(.int .i64 0),
 (.int .i64 0),(.int .i64 0),(.int .u64 0),(.string (bs []))] []),O (.stn 6 (t 2) (t 40)),M 3 F],.ret]) .skip],r [m 41 0,o 42 (.nck (t 41)),f 43 6 42,
 l 44 43,m 45 6,o 46 (.build [(.int .i64 0),(.int .i64 0),(.int .i64 0),(.int .i64 0),(.int .u64 0),(.string (bs []))] [(0,(1,(c (n 6)))),(1,(1,
 (t 44))),(5,(1,(t 45)))]),o 7 (.alloc 118 [(.int .i64 0),(.int .i64 0),(.int .i64 0),(.int .i64 0),(.int .u64 0),(.string (bs []))]),O (.stn 6 (t 7)
 (t 46))],r [m 47 0,o 48 (.nck (t 47)),f 49 6 48,l 50 49,u 51 .add 50 1,o 52 (.nck (t 47)),f 53 6 52,O (.st (t 53) (t 51))],r [o 54 (.ldn 6 (t 7)),O
 (.stn 6 (t 2) (t 54)),M 3 T],.ret]),[(.cn 2 6),(.t 3)]⟩:zaa)=y}).1
def k129:zaa:=(⟨_,by first|(simp only[nf];exact rfl)|rfl⟩:{y//(⟨19,(q [r [o 1 (.box 118 (t 0)),o 2 (.alloc 164 [(.int .i64 0),(.string (bs []))]),
 M 3 (n 0)],q [r [o 6 (.ldn 6 (t 1)),C 7 121 [(t 6)],o 8 (.un .not (t 7))],k 8 (q [r [o 9 (.build [(.int .i64 0),(.string (bs []))] []),O (.stn 2
 (t 2) (t 9)),M 3 (n 3)],.ret]) .skip],r [o 11 (.ldn 6 (t 1)),C 12 152 [(t 11)],m 10 12,x 13 10 0,x 14 10 1,m 4 13,m 5 14],r [f 15 0 1,l 16 15,m 17 4,
 o 18 (.build [(.int .i64 0),(.string (bs []))] [(0,(1,(t 16))),(1,(1,(t 17)))]),O (.stn 2 (t 2) (t 18)),M 3 (n 0)],.ret]),[(.cn 2 2),
 (.t 3)]⟩:zaa)=y}).1
def k130:zaa:=(⟨_,by first|(simp only[nf];exact rfl)|rfl⟩:{y//(⟨33,(q [r [o 1 (.box 164 (t 0)),M 2 E,M 3 (n 0)],.block 0 (q [r [f 7 0 1,l 8 7,
 C 9 165 [(t 8)],o 10 (.un .not (t 9)),m 6 10],k 6 (q [r [M 2 E,M 3 (n 6)],.ret]) (q [r [f 12 1 1,l 13 12,o 14 (.lenS (t 13)),u 15 .gtr 14 900,
 m 11 15],k 11 (q [r [M 2 E,M 3 (n 5)],.ret]) .skip])]),r [o 4 (.alloc 203 [(.slice none 0 0)])],r [f 16 0 1,l 17 16,o 18 (.cvt .u64 (t 17)),f 20 1 1,
 l 21 20,o 22 (.lenS (t 21)),o 23 (.cvt .u64 (t 22)),f 25 1 1,l 26 25,C 19 166 [(t 4),(t 18),(c (n 1))],(.chk 21 none (.ld (t 20))),(.chk 26 none
 (.ld (t 25))),C 24 166 [(t 19),(t 23),(c (n 2))],(.chk 26 none (.ld (t 25))),C 27 167 [(t 24),(t 26)],C 28 168 [(t 27)],m 5 28],r [m 29 5,
 C 30 162 [(t 29)],C 31 166 [(t 4),(t 30),(c (n 8))],C 32 168 [(t 31)],m 2 32,M 3 (n 0)],.ret]),[(.t 2),(.t 3)]⟩:zaa)=y}).1
def b131_0:zae:=(⟨_,by first|(simp only[nf];exact rfl)|rfl⟩:{y//(q [r [v 18 .lss 17 16],k 18 .skip (.exit 0),.block 1 (q [r [m 19 17,m 5 19],
 r [m 20 0,m 21 0,o 22 (.nck (t 21)),f 23 3 22,o 24 (.ldn 2 (t 23)),m 25 1,m 26 5,o 27 (.idS (t 25) (t 26)),C 28 169 [(t 24),(t 27)],o 29 (.nck
 (t 20)),f 30 3 29,O (.stn 2 (t 30) (t 28))],r [m 31 0,m 32 0,o 33 (.nck (t 32)),f 34 1 33,l 35 34,m 36 1,m 37 5,o 38 (.idS (t 36) (t 37)),m 39 0,
 o 40 (.nck (t 39)),f 41 3 40,o 42 (.ldn 2 (t 41)),C 43 149 [(t 42)],(.chk 35 none (.ld (t 34))),o 44 (.build [(.int .u8 0),(.int .u64 0),
 (.bool false)] [(0,(1,(t 38))),(1,(1,(t 43))),(2,(1,(c T)))]),o 45 (.bsl 160 1 [(.int .u8 0),(.int .u64 0),(.bool false)] [(0,(3,(t 44)))]),
 (.chk 35 none (.ld (t 34))),o 46 (.app 160 3 24 (t 35) (t 45)),o 47 (.nck (t 31)),f 48 1 47,O (.st (t 48) (t 46))]]),r [u 49 .add 17 1,
 m 17 49]])=y}).1
def k131:zaa:=(⟨_,by first|(simp only[nf];exact rfl)|rfl⟩:{y//(⟨50,(q [r [M 4 F],q [r [m 6 0,o 7 (.eqv .ptr false (t 6) (c P)),m 8 7,h 9 8 false 1,
 g 10 8 false (.lenS (t 9)),h 11 8 false 0,g 12 8 false (.call 137 [(t 11)]),g 13 8 false (.bin .gtr (t 10) (t 12)),p 14 8 13],k 14 (q [r [M 4 F],
 .ret]) .skip],q [r [m 15 1,o 16 (.lenS (t 15)),M 17 (n 0)],.block 0 (.loop b131_0)],r [M 4 T],.ret]),[(.t 4)]⟩:zaa)=y}).1
def k132:zaa:=(⟨_,by first|(simp only[nf];exact rfl)|rfl⟩:{y//(⟨67,(q [r [o 3 (.box 118 (t 1)),M 4 E,M 5 F],q [r [f 10 0 3,l 11 10,u 12 .neq 11 6,
 m 13 12,h 14 13 false 0,g 15 13 false (.nck (t 14)),g 16 13 false (.fad 3 (t 15)),g 17 13 false (.ld (t 16)),g 18 13 false (.call 170 [(t 17)]),
 g 19 13 false (.un .not (t 18)),p 20 13 19,m 21 20,h 22 21 false 0,g 23 21 false (.nck (t 22)),g 24 21 false (.fad 3 (t 23)),g 25 21 false (.ld
 (t 24)),g 26 21 false (.call 171 [(t 25)]),p 27 21 26,m 28 27,g 29 28 false (.fad 1 (t 3)),g 30 28 false (.ld (t 29)),h 31 28 false 0,g 32 28 false
 (.nck (t 31)),g 33 28 false (.fad 0 (t 32)),g 34 28 false (.ld (t 33)),g 35 28 false (.call 50 [(t 34)]),(.chk 30 (some (28,false)) (.ld (t 29))),
 g 36 28 false (.bin .neq (t 30) (t 35)),p 37 28 36],k 37 (q [r [M 4 E,M 5 F],.ret]) .skip],r [f 39 5 3,l 40 39,C 41 172 [(t 40)],m 38 41,x 42 38 0,
 x 43 38 1,m 6 42,m 7 43],r [m 45 0,o 46 (.nck (t 45)),f 47 3 46,l 48 47,C 49 173 [(t 48)],m 44 49,x 50 44 0,x 51 44 1,m 8 50,m 9 51],r [m 52 8,
 m 53 7,u 54 .eql 53 0,m 55 54,h 56 55 true 9,a 57 55 56,m 58 57,h 59 58 true 6,h 60 58 true 0,g 61 58 true (.nck (t 60)),g 62 58 true (.fad 3
 (t 61)),g 63 58 true (.ld (t 62)),g 64 58 true (.call 174 [(t 63)]),g 65 58 true (.bin .eql (t 59) (t 64)),a 66 58 65,m 4 52,m 5 66],.ret]),[(.t 4),
 (.t 5)]⟩:zaa)=y}).1
def k133:zaa:=(⟨_,by first|(simp only[nf];exact rfl)|rfl⟩:{y//(⟨33,(q [r [o 3 (.box 118 (t 1)),o 4 (.alloc 118 [(.int .i64 0),(.int .i64 0),
 (.int .i64 0),(.int .i64 0),(.int .u64 0),(.string (bs []))]),M 5 F,M 6 (n 0)],.block 0 (q [r [m 10 0,o 11 (.eqv .ptr false (t 10) (c P)),m 9 11],
 k 9 (q [r [o 12 (.build [(.int .i64 0),(.int .i64 0),(.int .i64 0),(.int .i64 0),(.int .u64 0),(.string (bs []))] []),O (.stn 6 (t 4) (t 12)),M 5 F,
 M 6 (n 1)],.ret]) (q [r [o 14 (.ldn 6 (t 3)),C 15 121 [(t 14)],o 16 (.un .not (t 15)),m 13 16],k 13 (q [r [o 17 (.build [(.int .i64 0),(.int .i64 0),
 (.int .i64 0),(.int .i64 0),(.int .u64 0),(.string (bs []))] []),O (.stn 6 (t 4) (t 17)),M 5 F,M 6 (n 3)],.ret]) .skip])]),r [m 18 0,f 19 0 3,
 l 20 19,C 21 175 [(t 18),(t 20)],m 7 21],r [m 22 7,o 23 (.ldn 6 (t 3)),o 24 (.callv (t 22) [(t 23)]),o 8 (.alloc 212 [(.int .i64 0),(.int .i64 0),
 (.int .i64 0),(.int .i64 0),(.int .u64 0),(.string (bs [])),(.int .i64 0)]),O (.stn 7 (t 8) (t 24))],r [f 25 0 8,o 26 (.ldn 6 (t 25)),f 27 0 8,
 f 28 0 27,l 29 28,u 30 .neq 29 0,f 31 6 8,l 32 31,O (.stn 6 (t 4) (t 26)),(.chk 29 none (.ld (t 28))),(.chk 32 none (.ld (t 31))),m 5 30,m 6 32],
 .ret]),[(.cn 4 6),(.t 5),(.t 6)]⟩:zaa)=y}).1
def k134:zaa:=(⟨_,by first|(simp only[nf];exact rfl)|rfl⟩:{y//(⟨12,(q [r [m 2 0,o 3 (.nck (t 2)),f 4 0 3,l 5 4,C 6 176 [(t 5)]],r [m 7 0,o 8 (.nck
 (t 7)),f 9 1 8,l 10 9,C 11 176 [(t 10)]]]),[]⟩:zaa)=y}).1
def k137:zaa:=(⟨_,by first|(simp only[nf];exact rfl)|rfl⟩:{y//(⟨21,(q [r [M 2 (n 0)],q [r [m 3 0,o 4 (.eqv .ptr false (t 3) (c P))],k 4 (q [r [M 2
 (n 0)],.ret]) .skip],r [m 5 0,o 6 (.nck (t 5)),f 7 0 6,l 8 7,m 9 0,o 10 (.nck (t 9)),f 11 1 10,l 12 11,L 13 12,v 14 .sub 8 13,m 15 0,o 16 (.nck
 (t 15)),f 17 2 16,l 18 17,L 19 18,v 20 .sub 14 19,m 2 20],.ret]),[(.t 2)]⟩:zaa)=y}).1
def b140_0:zae:=(⟨_,by first|(simp only[nf];exact rfl)|rfl⟩:{y//(q [q [r [m 9 3,u 10 .geq 9 0],k 10 .skip (.exit 0)],.block 1 (r [m 13 0,m 14 3,
 m 15 2,C 16 177 [(t 13),(t 14),(t 15)]]),r [m 11 3,u 12 .sub 11 1,m 3 12]])=y}).1
def k140:zaa:=(⟨_,by first|(simp only[nf];exact rfl)|rfl⟩:{y//(⟨17,(q [r [m 4 0,o 5 (.inv (t 4) "Len" []),m 2 5],r [m 6 2,u 7 .quo 6 2,u 8 .sub 7 1,
 m 3 8],.block 0 (.loop b140_0)]),[]⟩:zaa)=y}).1
def k142:zaa:=(⟨_,by first|(simp only[nf];exact rfl)|rfl⟩:{y//(⟨15,(q [r [M 2 .nilIface],r [m 4 0,o 5 (.inv (t 4) "Len" []),u 6 .sub 5 1,m 3 6],
 r [m 7 0,m 8 3,o 9 (.inv (t 7) "Swap" [(c (n 0)),(t 8)])],r [m 10 0,m 11 3,C 12 177 [(t 10),(c (n 0)),(t 11)]],r [m 13 0,o 14 (.inv (t 13) "Pop" []),
 m 2 14],.ret]),[(.t 2)]⟩:zaa)=y}).1
def k143:zaa:=(⟨_,by first|(simp only[nf];exact rfl)|rfl⟩:{y//(⟨12,(q [r [m 4 0,m 5 1,o 6 (.inv (t 4) "Push" [(t 5)])],r [m 7 0,m 8 0,o 9 (.inv
 (t 8) "Len" []),u 10 .sub 9 1,C 11 178 [(t 7),(t 10)]]]),[]⟩:zaa)=y}).1
def k146:zaa:=(⟨_,by first|(simp only[nf];exact rfl)|rfl⟩:{y//(⟨9,(q [r [M 2 (n 0)],q [r [m 3 0,o 4 (.eqv .ptr false (t 3) (c P))],k 4 (q [r [M 2
 (n 1)],.ret]) .skip],r [m 5 0,o 6 (.nck (t 5)),f 7 3 6,l 8 7,m 2 8],.ret]),[(.t 2)]⟩:zaa)=y}).1
def k147:zaa:=(⟨_,by first|(simp only[nf];exact rfl)|rfl⟩:{y//(⟨57,(q [r [M 4 F],r [m 5 0,m 6 0,o 7 (.nck (t 6)),f 8 0 7,l 9 8,m 10 1,o 11
 (.bsl 5 1 [(.int .u8 0)] [(0,(1,(t 10)))]),o 12 (.app 5 1 1 (t 9) (t 11)),o 13 (.nck (t 5)),f 14 0 13,O (.st (t 14) (t 12))],r [m 15 0,m 16 0,o 17
 (.nck (t 16)),f 18 1 17,o 19 (.ldn 2 (t 18)),m 20 1,C 21 169 [(t 19),(t 20)],o 22 (.nck (t 15)),f 23 1 22,O (.stn 2 (t 23) (t 21))],r [m 24 0,o 25
 (.nck (t 24)),f 26 4 25,l 27 26,u 28 .add 27 1,o 29 (.nck (t 24)),f 30 4 29,O (.st (t 30) (t 28))],r [m 31 0,m 32 0,o 33 (.nck (t 32)),f 34 0 33,
 l 35 34,C 36 181 [(t 35)],o 37 (.nck (t 31)),f 38 3 37,O (.st (t 38) (t 36))],r [m 39 0,o 40 (.nck (t 39)),f 41 3 40,l 42 41,u 43 .eql 42 0,m 44 43,
 h 45 44 true 0,g 46 44 true (.nck (t 45)),g 47 44 true (.fad 0 (t 46)),g 48 44 true (.ld (t 47)),g 49 44 true (.lenL (t 48)),h 50 44 true 0,
 g 51 44 true (.nck (t 50)),g 52 44 true (.fad 0 (t 51)),g 53 44 true (.ld (t 52)),g 54 44 true (.call 182 [(t 53)]),(.chk 48 (some (44,true)) (.ld
 (t 47))),g 55 44 true (.bin .eql (t 49) (t 54)),a 56 44 55,m 4 56],.ret]),[(.t 4)]⟩:zaa)=y}).1
def k148:zaa:=(⟨_,by first|(simp only[nf];exact rfl)|rfl⟩:{y//(⟨32,(q [r [o 2 (.alloc 164 [(.int .i64 0),(.string (bs []))]),M 3 (n 0)],r [m 6 0,
 L 7 6,u 8 .sub 7 8,m 4 8],r [m 9 0,m 10 4,o 11 (.slc 5 1 (t 9) (some (t 10)) none),o 12 (.b2s 5 (t 11)),C 13 183 [(t 12)],C 14 184 [(t 13),(c
 (n 8))],m 5 14],q [r [m 15 0,m 16 4,o 17 (.slc 5 1 (t 15) none (some (t 16))),o 18 (.b2s 5 (t 17)),C 19 162 [(t 18)],m 20 5,v 21 .neq 19 20],k 21
 (q [r [o 22 (.build [(.int .i64 0),(.string (bs []))] []),O (.stn 2 (t 2) (t 22)),M 3 (n 4)],.ret]) .skip],r [m 23 0,o 24 (.iad 1 (t 23) (c (n 0))),
 l 25 24,o 26 (.cvt .i64 (t 25)),m 27 0,m 28 4,o 29 (.slc 5 1 (t 27) (some (c (n 3))) (some (t 28))),o 30 (.b2s 5 (t 29)),o 31 (.build [(.int .i64 0),
 (.string (bs []))] [(0,(1,(t 26))),(1,(1,(t 30)))]),O (.stn 2 (t 2) (t 31)),M 3 (n 0)],.ret]),[(.cn 2 2),(.t 3)]⟩:zaa)=y}).1
def k149:zaa:=(⟨_,by first|(simp only[nf];exact rfl)|rfl⟩:{y//(⟨14,(q [r [o 1 (.box 97 (t 0)),M 2 (N 0)],r [f 4 0 1,l 5 4,f 6 1 1,l 7 6,
 v 8 .add 5 7,o 9 (.bin .mul (t 8) (c (N 13787848793156543929))),m 3 9],r [m 10 3,m 11 3,o 12 (.bin .shr (t 11) (c (N 32))),v 13 .xor 10 12,m 2 13],
 .ret]),[(.t 2)]⟩:zaa)=y}).1
def k150:zaa:=(⟨_,by first|(simp only[nf];exact rfl)|rfl⟩:{y//(⟨74,(q [r [o 4 (.alloc 118 [(.int .i64 0),(.int .i64 0),(.int .i64 0),(.int .i64 0),
 (.int .u64 0),(.string (bs []))]),M 5 F],r [m 8 0,o 9 (.build [(.int .i64 0),(.int .i64 0),(.int .i64 0),(.int .i64 0),(.int .u64 0),(.string
 (bs []))] [(0,(1,(t 8)))]),o 6 (.alloc 118 [(.int .i64 0),(.int .i64 0),(.int .i64 0),(.int .i64 0),(.int .u64 0),(.string (bs []))]),O (.stn 6
 (t 6) (t 9))],r [m 10 1,C 11 183 [(t 10)],m 7 11],q [r [m 12 0],.block 0 (q [q [r [u 15 .eql 12 1,m 14 15],k 14 .skip (r [u 16 .eql 12 2,m 14 16])],
 k 14 (r [m 17 7,C 18 185 [(t 17),(c (n 400))],m 19 7,C 20 185 [(t 19),(c (n 1073741824))],f 21 1 6,O (.st (t 21) (t 18)),f 22 2 6,O (.st (t 22)
 (t 20))]) (q [r [u 24 .eql 12 3,m 23 24],k 23 (r [m 25 7,C 26 185 [(t 25),(c (n 1073741824))],m 27 7,C 28 186 [(t 27),(c (n 300))],f 29 2 6,O (.st
 (t 29) (t 26)),f 30 5 6,O (.st (t 30) (t 28))]) (q [q [r [u 32 .eql 12 4,m 31 32],k 31 .skip (r [u 33 .eql 12 5,m 31 33])],k 31 (r [m 34 7,
 C 35 185 [(t 34),(c (n 1073741824))],f 36 2 6,O (.st (t 36) (t 35))]) (q [r [u 38 .eql 12 6,m 37 38],k 37 (r [m 39 7,C 40 185 [(t 39),(c (n 400))],
 m 41 7,C 42 186 [(t 41),(c (n 600))],f 43 1 6,O (.st (t 43) (t 40)),f 44 5 6,O (.st (t 44) (t 42))]) (q [r [u 46 .eql 12 7,m 45 46],k 45 (r [m 47 7,
 C 48 185 [(t 47),(c (n 400))],f 49 1 6,O (.st (t 49) (t 48))]) (q [r [u 51 .eql 12 8,m 50 51],k 50 (r [m 52 7,C 53 185 [(t 52),(c (n 400))],m 54 7,
 C 55 185 [(t 54),(c (n 1048576))],m 56 7,C 57 184 [(t 56),(c (n 8))],f 58 1 6,O (.st (t 58) (t 53)),f 59 3 6,O (.st (t 59) (t 55)),f 60 4 6,O (.st
 (t 60) (t 57))]) (q [r [u 62 .eql 12 9,m 61 62],k 61 (r [m 63 7,C 64 185 [(t 63),(c (n 1048576))],m 65 7,C 66 186 [(t 65),(c (n 200))],f 67 3 6,O
 (.st (t 67) (t 64)),f 68 5 6,O (.st (t 68) (t 66))]) (q [r [u 70 .eql 12 10,m 69 70],k 69 .skip (q [r [o 13 (.build [(.int .i64 0),(.int .i64 0),
 (.int .i64 0),(.int .i64 0),(.int .u64 0),(.string (bs []))] []),O (.stn 6 (t 4) (t 13)),M 5 F],.ret])])])])])])])])])],r [o 71 (.ldn 6 (t 6)),
 m 72 7,C 73 187 [(t 72)],(.chk 71 none (.ldn 6 (t 6))),O (.stn 6 (t 4) (t 71)),m 5 73],.ret]),[(.cn 4 6),(.t 5)]⟩:zaa)=y}).1
def k151:zaa:=(⟨_,by first|(simp only[nf];exact rfl)|rfl⟩:{y//(⟨17,(q [r [o 1 (.box 118 (t 0)),M 2 F],q [r [f 3 0 1,l 4 3],.block 0
 (q [q [r [u 6 .eql 4 3,m 5 6],k 5 .skip (q [r [u 7 .eql 4 4,m 5 7],k 5 .skip (r [u 8 .eql 4 5,m 5 8])])],k 5 (q [r [f 9 2 1,l 10 9,u 11 .geq 10 1,
 m 2 11],.ret]) (q [r [u 13 .eql 4 9,m 12 13],k 12 (q [r [f 14 5 1,l 15 14,o 16 (.bin .neq (t 15) (c E)),m 2 16],.ret]) .skip])])],r [M 2 T],.ret]),
 [(.t 2)]⟩:zaa)=y}).1
def k152:zaa:=(⟨_,by first|(simp only[nf];exact rfl)|rfl⟩:{y//(⟨68,(q [r [o 1 (.box 118 (t 0)),M 2 E,M 3 F],r [o 4
 (.alloc 203 [(.slice none 0 0)])],r [f 8 1 1,l 9 8,o 10 (.cvt .u64 (t 9)),f 11 2 1,l 12 11,o 13 (.cvt .u64 (t 12)),f 14 3 1,l 15 14,o 16 (.cvt .u64
 (t 15)),m 5 10,m 6 13,m 7 16],q [r [f 17 0 1,l 18 17],.block 0 (q [q [r [u 20 .eql 18 1,m 19 20],k 19 .skip (r [u 21 .eql 18 2,m 19 21])],k 19
 (r [m 22 5,C 23 188 [(t 4),(t 22)],m 24 6,C 25 188 [(t 23),(t 24)]]) (q [r [u 27 .eql 18 3,m 26 27],k 26 (r [m 28 6,f 30 5 1,l 31 30,C 29 188 [(t 4),
 (t 28)],(.chk 31 none (.ld (t 30))),C 32 189 [(t 29),(t 31)]]) (q [q [r [u 34 .eql 18 4,m 33 34],k 33 .skip (r [u 35 .eql 18 5,m 33 35])],k 33
 (r [m 36 6,C 37 188 [(t 4),(t 36)]]) (q [r [u 39 .eql 18 6,m 38 39],k 38 (r [m 40 5,f 42 5 1,l 43 42,C 41 188 [(t 4),(t 40)],(.chk 43 none (.ld
 (t 42))),C 44 189 [(t 41),(t 43)]]) (q [r [u 46 .eql 18 7,m 45 46],k 45 (r [m 47 5,C 48 188 [(t 4),(t 47)]]) (q [r [u 50 .eql 18 8,m 49 50],k 49
 (r [m 51 5,m 53 7,f 55 4 1,l 56 55,C 52 188 [(t 4),(t 51)],(.chk 56 none (.ld (t 55))),C 54 188 [(t 52),(t 53)],(.chk 56 none (.ld (t 55))),
 C 57 166 [(t 54),(t 56),(c (n 8))]]) (q [r [u 59 .eql 18 9,m 58 59],k 58 (r [m 60 7,f 62 5 1,l 63 62,C 61 188 [(t 4),(t 60)],(.chk 63 none (.ld
 (t 62))),C 64 189 [(t 61),(t 63)]]) (q [r [u 66 .eql 18 10,m 65 66],k 65 .skip (q [r [M 2 E,M 3 F],.ret])])])])])])])])])],r [C 67 168 [(t 4)],
 m 2 67,M 3 T],.ret]),[(.t 2),(.t 3)]⟩:zaa)=y}).1
def k153:zaa:=(⟨_,by first|(simp only[nf];exact rfl)|rfl⟩:{y//(⟨47,(q [r [o 3 (.box 118 (t 1)),M 4 (n 0)],.block 0 (q [r [m 6 0,o 7 (.nck (t 6)),
 f 8 3 7,l 9 8,m 5 9],k 5 (q [r [M 4 (n 6)],.ret]) (q [r [f 11 1 3,l 12 11,m 13 0,o 14 (.nck (t 13)),f 15 0 14,l 16 15,C 17 41 [(t 16)],(.chk 12 none
 (.ld (t 11))),v 18 .gtr 12 17,m 10 18],k 10 (q [r [M 4 (n 7)],.ret]) .skip])]),r [m 19 0,m 20 0,o 21 (.nck (t 19)),f 22 3 21,O (.st (t 22) (c T)),
 o 23 (.nck (t 20)),f 24 4 23,O (.st (t 24) (c T))],r [m 25 0,m 26 0,f 27 1 3,l 28 27,f 29 1 3,l 30 29,o 31 (.nck (t 25)),f 32 6 31,O (.st (t 32)
 (t 28)),(.chk 30 none (.ld (t 29))),o 33 (.nck (t 26)),f 34 7 33,O (.st (t 34) (t 30))],q [r [m 35 0,o 36 (.nck (t 35)),f 37 1 36,l 38 37,f 39 2 3,
 l 40 39,C 41 158 [(t 38),(t 40)]],k 41 (r [m 42 0,f 43 2 3,l 44 43,o 45 (.nck (t 42)),f 46 8 45,O (.st (t 46) (t 44))]) .skip],r [M 4 (n 0)],.ret]),
 [(.t 4)]⟩:zaa)=y}).1
def k155:zaa:=(⟨_,by first|(simp only[nf];exact rfl)|rfl⟩:{y//(⟨33,(q [r [o 3 (.box 118 (t 1)),M 4 (n 0)],.block 0 (q [r [m 6 0,o 7 (.nck (t 6)),
 f 8 3 7,l 9 8,o 10 (.un .not (t 9)),m 5 10],k 5 (q [r [M 4 (n 6)],.ret]) (q [r [f 12 1 3,l 13 12,m 14 0,o 15 (.nck (t 14)),f 16 7 15,l 17 16,
 v 18 .lss 13 17,m 19 18,g 20 19 false (.fad 1 (t 3)),g 21 19 false (.ld (t 20)),h 22 19 false 0,g 23 19 false (.nck (t 22)),g 24 19 false (.fad 6
 (t 23)),g 25 19 false (.ld (t 24)),g 26 19 false (.bin .gtr (t 21) (t 25)),p 27 19 26,m 11 27],k 11 (q [r [M 4 (n 7)],.ret]) .skip])]),r [m 28 0,
 f 29 1 3,l 30 29,o 31 (.nck (t 28)),f 32 7 31,O (.st (t 32) (t 30))],r [M 4 (n 0)],.ret]),[(.t 4)]⟩:zaa)=y}).1
def k158:zaa:=(⟨_,by first|(simp only[nf];exact rfl)|rfl⟩:{y//(⟨22,(q [r [M 4 F],r [m 6 0,m 7 1,C 8 80 [(t 6),(t 7)],m 5 8],q [r [m 9 5,
 u 10 .lss 9 0],k 10 (q [r [M 4 F],.ret]) .skip],r [m 11 0,o 12 (.nck (t 11)),f 13 0 12,l 14 13,m 15 5,e 16 3 14 15,f 17 2 16,l 18 17,u 19 .add 18 1,
 e 20 3 14 15,f 21 2 20,O (.st (t 21) (t 19))],r [M 4 T],.ret]),[(.t 4)]⟩:zaa)=y}).1
def k162:zaa:=(⟨_,by first|(simp only[nf];exact rfl)|rfl⟩:{y//(⟨7,(q [r [M 2 (N 0)],r [C 3 74 [],m 4 0,C 5 191 [(t 3),(t 4)],C 6 149 [(t 5)],m 2 6],
 .ret]),[(.t 2)]⟩:zaa)=y}).1
def k163:zaa:=(⟨_,by first|(simp only[nf];exact rfl)|rfl⟩:{y//(⟨29,(q [r [M 4 E,M 5 (n 0)],.block 0 (q [r [m 7 1,u 8 .lss 7 0,m 9 8,h 10 9 false 1,
 h 11 9 false 0,g 12 9 false (.call 41 [(t 11)]),g 13 9 false (.bin .geq (t 10) (t 12)),p 14 9 13,m 6 14],k 6 (q [r [M 4 E,M 5 (n 10)],.ret])
 (q [r [m 16 1,m 17 0,o 18 (.nck (t 17)),f 19 1 18,l 20 19,v 21 .lss 16 20,m 15 21],k 15 (q [r [M 4 E,M 5 (n 7)],.ret]) .skip])]),r [m 22 0,o 23
 (.nck (t 22)),f 24 0 23,l 25 24,m 26 1,e 27 1 25 26,l 28 27,m 4 28,M 5 (n 0)],.ret]),[(.t 4),(.t 5)]⟩:zaa)=y}).1
def k164:zaa:=(⟨_,by first|(simp only[nf];exact rfl)|rfl⟩:{y//(⟨46,(q [r [M 8 E,M 9 (n 0)],.block 0 (q [r [m 13 0,o 14 (.lenS (t 13)),
 u 15 .gtr 14 512,m 16 15,h 17 16 false 1,g 18 16 false (.lenS (t 17)),g 19 16 false (.bin .gtr (t 18) (c (n 256))),p 20 16 19,m 12 20],k 12
 (q [r [M 8 E,M 9 (n 5)],.ret]) (q [r [m 22 2,u 23 .lss 22 0,m 24 23,h 25 24 false 2,g 26 24 false (.bin .gtr (t 25) (c (n 1073741824))),p 27 24 26,
 m 21 27],k 21 (q [r [M 8 E,M 9 (n 1)],.ret]) .skip])]),r [m 29 0,m 30 1,m 31 3,C 32 192 [(t 29),(t 30),(t 31)],m 28 32,x 33 28 0,x 34 28 1,m 10 33,
 m 11 34],r [m 35 10,m 36 2,m 37 0,o 38 (.lenS (t 37)),m 39 0,C 40 162 [(t 39)],o 41 (.build [(.int .i64 0),(.int .i64 0),(.int .i64 0),
 (.int .u64 0)] [(0,(1,(t 35))),(1,(1,(t 36))),(2,(1,(t 38))),(3,(1,(t 40)))]),C 42 193 [(t 41)],m 43 11,C 44 167 [(t 42),(t 43)],C 45 168 [(t 44)],
 m 8 45,M 9 (n 0)],.ret]),[(.t 8),(.t 9)]⟩:zaa)=y}).1
def k165:zaa:=(⟨_,by first|(simp only[nf];exact rfl)|rfl⟩:{y//(⟨9,(q [r [M 2 F],r [m 3 0,u 4 .geq 3 1,m 5 4,h 6 5 true 0,g 7 5 true (.bin .leq
 (t 6) (c (n 10))),a 8 5 7,m 2 8],.ret]),[(.t 2)]⟩:zaa)=y}).1
def b166_0:zae:=(⟨_,by first|(simp only[nf];exact rfl)|rfl⟩:{y//(q [r [v 12 .lss 11 10],k 12 .skip (.exit 0),.block 1 (q [r [m 13 0,m 14 0,o 15
 (.nck (t 14)),f 16 0 15,l 17 16,m 18 1,o 19 (.cvt .u8 (t 18)),o 20 (.bsl 5 1 [(.int .u8 0)] [(0,(1,(t 19)))]),o 21 (.app 5 1 1 (t 17) (t 20)),o 22
 (.nck (t 13)),f 23 0 22,O (.st (t 23) (t 21))],r [m 24 1,o 25 (.bin .shr (t 24) (c (N 8))),m 1 25]]),r [u 26 .add 11 1,m 11 26]])=y}).1
def k166:zaa:=(⟨_,by first|(simp only[nf];exact rfl)|rfl⟩:{y//(⟨28,(q [r [M 6 P],q [r [m 7 0,o 8 (.eqv .ptr false (t 7) (c P))],k 8 (q [r [M 6 P],
 .ret]) .skip],q [r [m 9 2,C 10 194 [(t 9)],M 11 (n 0)],.block 0 (.loop b166_0)],r [m 27 0,m 6 27],.ret]),[(.t 6)]⟩:zaa)=y}).1
def k167:zaa:=(⟨_,by first|(simp only[nf];exact rfl)|rfl⟩:{y//(⟨17,(q [r [M 4 P],q [r [m 5 0,o 6 (.eqv .ptr false (t 5) (c P))],k 6 (q [r [M 4 P],
 .ret]) .skip],r [m 7 0,m 8 0,o 9 (.nck (t 8)),f 10 0 9,l 11 10,m 12 1,o 13 (.appS 5 (t 11) (t 12)),o 14 (.nck (t 7)),f 15 0 14,O (.st (t 15)
 (t 13))],r [m 16 0,m 4 16],.ret]),[(.t 4)]⟩:zaa)=y}).1
def k168:zaa:=(⟨_,by first|(simp only[nf];exact rfl)|rfl⟩:{y//(⟨10,(q [r [M 2 E],q [r [m 3 0,o 4 (.eqv .ptr false (t 3) (c P))],k 4 (q [r [M 2 E],
 .ret]) .skip],r [m 5 0,o 6 (.nck (t 5)),f 7 0 6,l 8 7,o 9 (.b2s 5 (t 8)),m 2 9],.ret]),[(.t 2)]⟩:zaa)=y}).1
def k169:zaa:=(⟨_,by first|(simp only[nf];exact rfl)|rfl⟩:{y//(⟨20,(q [r [o 2 (.box 97 (t 0)),o 4 (.alloc 97 [(.int .u64 0),(.int .u64 0)])],
 r [f 6 0 2,l 7 6,m 8 1,o 9 (.cvt .u64 (t 8)),v 10 .xor 7 9,o 11 (.bin .mul (t 10) (c (N 11400714819323198485))),m 5 11],r [m 12 5,m 13 5,o 14
 (.bin .shr (t 13) (c (N 29))),v 15 .xor 12 14,f 16 1 2,l 17 16,o 18 (.bin .add (t 17) (c (N 1))),o 19 (.build [(.int .u64 0),(.int .u64 0)] [(0,(1,
 (t 15))),(1,(1,(t 18)))]),O (.stn 2 (t 4) (t 19))],.ret]),[(.cn 4 2)]⟩:zaa)=y}).1
def k170:zaa:=(⟨_,by first|(simp only[nf];exact rfl)|rfl⟩:{y//(⟨11,(q [r [M 2 F],r [m 3 0,o 4 (.eqv .ptr true (t 3) (c P)),m 5 4,h 6 5 true 0,
 g 7 5 true (.nck (t 6)),g 8 5 true (.fad 1 (t 7)),g 9 5 true (.ld (t 8)),a 10 5 9,m 2 10],.ret]),[(.t 2)]⟩:zaa)=y}).1
def k171:zaa:=(⟨_,by first|(simp only[nf];exact rfl)|rfl⟩:{y//(⟨12,(q [r [M 2 F],r [m 3 0,o 4 (.eqv .ptr true (t 3) (c P)),m 5 4,h 6 5 true 0,
 g 7 5 true (.nck (t 6)),g 8 5 true (.fad 3 (t 7)),g 9 5 true (.ld (t 8)),g 10 5 true (.eqv .ptr true (t 9) (c P)),a 11 5 10,m 2 11],.ret]),
 [(.t 2)]⟩:zaa)=y}).1
def k172:zaa:=(⟨_,by first|(simp only[nf];exact rfl)|rfl⟩:{y//(⟨15,(q [r [M 2 (n 0),M 3 (n 0)],r [m 7 0,C 8 183 [(t 7)],C 9 195 [(t 8)],m 6 9,
 x 10 6 0,x 11 6 1,o 4 (.alloc 235 [(.int .i64 0),(.int .i64 0),(.int .i64 0),(.int .u64 0)]),O (.stn 4 (t 4) (t 10)),m 5 11],r [f 12 1 4,l 13 12,
 m 14 5,m 2 13,m 3 14],.ret]),[(.t 2),(.t 3)]⟩:zaa)=y}).1
def k173:zaa:=(⟨_,by first|(simp only[nf];exact rfl)|rfl⟩:{y//(⟨17,(q [r [M 2 E,M 3 F],q [r [m 4 0,o 5 (.eqv .ptr false (t 4) (c P))],k 5
 (q [r [M 2 E,M 3 F],.ret]) .skip],r [m 6 0,o 7 (.nck (t 6)),f 8 0 7,l 9 8,m 10 0,o 11 (.nck (t 10)),f 12 2 11,l 13 12,C 14 196 [(t 9),(t 13)],
 x 15 14 0,x 16 14 1,m 2 15,m 3 16],.ret]),[(.t 2),(.t 3)]⟩:zaa)=y}).1
def k174:zaa:=(⟨_,by first|(simp only[nf];exact rfl)|rfl⟩:{y//(⟨9,(q [r [M 2 (n 0)],q [r [m 3 0,o 4 (.eqv .ptr false (t 3) (c P))],k 4 (q [r [M 2
 (n 0)],.ret]) .skip],r [m 5 0,o 6 (.nck (t 5)),f 7 2 6,l 8 7,m 2 8],.ret]),[(.t 2)]⟩:zaa)=y}).1
def k175:zaa:=(⟨_,by first|(simp only[nf];exact rfl)|rfl⟩:{y//(⟨47,(q [r [M 4 .nilFunc],q [r [m 5 0,o 6 (.nck (t 5)),f 7 1 6,l 8 7,o 9 (.un .not
 (t 8)),m 10 9,h 11 10 true 1,g 12 10 true (.bin .neq (t 11) (c (n 2))),a 13 10 12],k 13 (q [r [m 14 0,o 15 (.mkf (.func 197) [(t 14)] []),m 4 15],
 .ret]) .skip],q [r [m 16 1],.block 0 (q [r [u 18 .eql 16 2,m 17 18],k 17 (q [r [m 19 0,o 20 (.mkf (.func 198) [(t 19)] []),m 4 20],.ret])
 (q [r [u 22 .eql 16 3,m 21 22],k 21 (q [r [m 23 0,o 24 (.mkf (.func 199) [(t 23)] []),m 4 24],.ret]) (q [r [u 26 .eql 16 5,m 25 26],k 25
 (q [r [m 27 0,o 28 (.mkf (.func 200) [(t 27)] []),m 4 28],.ret]) (q [r [u 30 .eql 16 6,m 29 30],k 29 (q [r [m 31 0,o 32 (.mkf
 (.func 201) [(t 31)] []),m 4 32],.ret]) (q [r [u 34 .eql 16 8,m 33 34],k 33 (q [r [m 35 0,o 36 (.mkf (.func 202) [(t 35)] []),m 4 36],.ret])
 (q [r [u 38 .eql 16 9,m 37 38],k 37 (q [r [m 39 0,o 40 (.mkf (.func 203) [(t 39)] []),m 4 40],.ret]) (q [r [u 42 .eql 16 10,m 41 42],k 41
 (q [r [m 43 0,o 44 (.mkf (.func 204) [(t 43)] []),m 4 44],.ret]) .skip])])])])])])])],r [m 45 0,o 46 (.mkf (.func 197) [(t 45)] []),m 4 46],.ret]),
 [(.t 4)]⟩:zaa)=y}).1
def k176:zaa:=(⟨_,by first|(simp only[nf];exact rfl)|rfl⟩:{y//(⟨14,(q [r [m 2 0,o 3 (.eqv .ptr true (t 2) (c P))],k 3 (r [m 4 0,m 5 0,m 6 0,
 C 7 74 [],o 8 (.nck (t 4)),f 9 1 8,O (.st (t 9) (c Z)),o 10 (.nck (t 5)),f 11 2 10,O (.st (t 11) (c Z)),o 12 (.nck (t 6)),f 13 3 12,O (.stn 2 (t 13)
 (t 7))]) .skip]),[]⟩:zaa)=y}).1
def b177_0:zae:=(⟨_,by first|(simp only[nf];exact rfl)|rfl⟩:{y//(.block 1 (q [r [m 12 7,o 13 (.bin .mul (c (n 2)) (t 12)),u 14 .add 13 1,m 8 14],
 q [r [m 15 8,m 16 2,v 17 .geq 15 16,m 18 17,h 19 18 false 8,g 20 18 false (.bin .lss (t 19) (c (n 0))),p 21 18 20],k 21 (.exit 0) .skip],r [m 22 8,
 m 9 22],q [r [m 23 8,u 24 .add 23 1,m 10 24],r [m 25 10,m 26 2,v 27 .lss 25 26,m 28 27,h 29 28 true 0,h 30 28 true 10,h 31 28 true 8,g 32 28 true
 (.inv (t 29) "Less" [(t 30),(t 31)]),a 33 28 32],k 33 (r [m 34 10,m 9 34]) .skip],q [r [m 35 0,m 36 9,m 37 7,o 38 (.inv (t 35) "Less" [(t 36),
 (t 37)]),o 39 (.un .not (t 38))],k 39 (.exit 0) .skip],r [m 40 0,m 41 7,m 42 9,o 43 (.inv (t 40) "Swap" [(t 41),(t 42)])],r [m 44 9,m 7 44]]))=y}).1
def k177:zaa:=(⟨_,by first|(simp only[nf];exact rfl)|rfl⟩:{y//(⟨48,(q [r [M 6 F],r [m 11 1,m 7 11],.block 0 (.loop b177_0),r [m 45 7,m 46 1,
 v 47 .gtr 45 46,m 6 47],.ret]),[(.t 6)]⟩:zaa)=y}).1
def b178_0:zae:=(⟨_,by first|(simp only[nf];exact rfl)|rfl⟩:{y//(.block 1 (q [r [m 5 1,u 6 .sub 5 1,u 7 .quo 6 2,m 4 7],q [r [m 8 4,m 9 1,
 v 10 .eql 8 9,m 11 10,h 12 11 false 0,h 13 11 false 1,h 14 11 false 4,g 15 11 false (.inv (t 12) "Less" [(t 13),(t 14)]),g 16 11 false (.un .not
 (t 15)),p 17 11 16],k 17 (.exit 0) .skip],r [m 18 0,m 19 4,m 20 1,o 21 (.inv (t 18) "Swap" [(t 19),(t 20)])],r [m 22 4,m 1 22]]))=y}).1
def k178:zaa:=(⟨_,by first|(simp only[nf];exact rfl)|rfl⟩:{y//(⟨23,(.block 0 (.loop b178_0)),[]⟩:zaa)=y}).1
def k181:zaa:=(⟨_,by first|(simp only[nf];exact rfl)|rfl⟩:{y//(⟨24,(q [r [M 2 (n 0)],.block 0 (q [r [m 4 0,L 5 4,u 6 .eql 5 1,m 7 6,h 8 7 true 0,
 g 9 7 true (.iad 1 (t 8) (c (n 0))),g 10 7 true (.ld (t 9)),g 11 7 true (.cvt .i64 (t 10)),g 12 7 true (.call 165 [(t 11)]),g 13 7 true (.un .not
 (t 12)),a 14 7 13,m 3 14],k 3 (q [r [M 2 (n 6)],.ret]) (q [r [m 16 0,L 17 16,u 18 .eql 17 3,m 19 18,h 20 19 true 0,g 21 19 true (.call 182 [(t 20)]),
 g 22 19 true (.bin .gtr (t 21) (c (n 911))),a 23 19 22,m 15 23],k 15 (q [r [M 2 (n 5)],.ret]) .skip])]),r [M 2 (n 0)],.ret]),[(.t 2)]⟩:zaa)=y}).1
def k182:zaa:=(⟨_,by first|(simp only[nf];exact rfl)|rfl⟩:{y//(⟨18,(q [r [M 2 (n 0)],q [r [m 3 0,L 4 3,u 5 .lss 4 3],k 5 (q [r [M 2 (n 11)],
 .ret]) .skip],r [m 6 0,o 7 (.iad 1 (t 6) (c (n 1))),l 8 7,o 9 (.cvt .i64 (t 8)),o 10 (.bin .add (c (n 3)) (t 9)),m 11 0,o 12 (.iad 1 (t 11) (c
 (n 2))),l 13 12,o 14 (.cvt .i64 (t 13)),o 15 (.bin .shl (t 14) (c (N 8))),v 16 .add 10 15,u 17 .add 16 8,m 2 17],.ret]),[(.t 2)]⟩:zaa)=y}).1
def k183:zaa:=(⟨_,by first|(simp only[nf];exact rfl)|rfl⟩:{y//(⟨6,(q [r [M 2 P],r [m 3 0,o 4 (.build [(.string (bs [])),(.bool false)] [(0,(1,
 (t 3)))]),o 5 (.box 240 (t 4)),m 2 5],.ret]),[(.t 2)]⟩:zaa)=y}).1
def b184_0:zae:=(⟨_,by first|(simp only[nf];exact rfl)|rfl⟩:{y//(q [r [v 15 .lss 14 13],k 15 .skip (.exit 0),.block 1 (q [r [m 16 14,e 17 1 12 14,
 l 18 17,m 6 16,m 7 18],r [m 19 5,m 20 7,o 21 (.cvt .u64 (t 20)),m 22 6,o 23 (.bin .mul (c (n 8)) (t 22)),v 24 .shl 21 23,v 25 .or 19 24,m 5 25]]),
 r [u 26 .add 14 1,m 14 26]])=y}).1
def k184:zaa:=(⟨_,by first|(simp only[nf];exact rfl)|rfl⟩:{y//(⟨28,(q [r [M 4 (N 0)],r [M 5 (N 0)],q [r [m 8 0,m 9 1,C 10 194 [(t 9)],
 C 11 205 [(t 8),(t 10)],o 12 (.s2b 5 (t 11)),L 13 12,M 14 (n 0)],.block 0 (.loop b184_0)],r [m 27 5,m 4 27],.ret]),[(.t 4)]⟩:zaa)=y}).1
def k185:zaa:=(⟨_,by first|(simp only[nf];exact rfl)|rfl⟩:{y//(⟨24,(q [r [M 4 (n 0)],r [m 6 0,C 7 206 [(t 6)],m 5 7],q [r [m 8 0,C 9 207 [(t 8)],
 m 10 9,h 11 10 false 1,g 12 10 false (.bin .lss (t 11) (c (n 0))),p 13 10 12,m 14 13,h 15 14 false 5,h 16 14 false 1,g 17 14 false (.cvt .u64
 (t 16)),g 18 14 false (.bin .gtr (t 15) (t 17)),p 19 14 18],k 19 (q [r [m 20 0,C 21 208 [(t 20)]],r [M 4 (n 0)],.ret]) .skip],r [m 22 5,o 23
 (.cvt .i64 (t 22)),m 4 23],.ret]),[(.t 4)]⟩:zaa)=y}).1
def k186:zaa:=(⟨_,by first|(simp only[nf];exact rfl)|rfl⟩:{y//(⟨10,(q [r [M 4 E],r [m 5 0,m 6 0,m 7 1,C 8 185 [(t 6),(t 7)],C 9 205 [(t 5),(t 8)],
 m 4 9],.ret]),[(.t 4)]⟩:zaa)=y}).1
def k187:zaa:=(⟨_,by first|(simp only[nf];exact rfl)|rfl⟩:{y//(⟨13,(q [r [M 2 F],r [m 3 0,C 4 207 [(t 3)],o 5 (.un .not (t 4)),m 6 5,h 7 6 true 0,
 g 8 6 true (.nck (t 7)),g 9 6 true (.fad 0 (t 8)),g 10 6 true (.ld (t 9)),g 11 6 true (.bin .eql (t 10) (c E)),a 12 6 11,m 2 12],.ret]),
 [(.t 2)]⟩:zaa)=y}).1
def b188_0:zae:=(⟨_,by first|(simp only[nf];exact rfl)|rfl⟩:{y//(q [q [r [m 7 1,o 8 (.bin .gtr (t 7) (c (N 127)))],k 8 .skip (.exit 0)],.block 1
 (q [r [m 9 0,m 10 0,o 11 (.nck (t 10)),f 12 0 11,l 13 12,m 14 1,o 15 (.cvt .u8 (t 14)),o 16 (.bin .or (t 15) (c (.int .u8 128))),o 17
 (.bsl 5 1 [(.int .u8 0)] [(0,(1,(t 16)))]),o 18 (.app 5 1 1 (t 13) (t 17)),o 19 (.nck (t 9)),f 20 0 19,O (.st (t 20) (t 18))],r [m 21 1,o 22
 (.bin .shr (t 21) (c (N 7))),m 1 22]])])=y}).1
def k188:zaa:=(⟨_,by first|(simp only[nf];exact rfl)|rfl⟩:{y//(⟨35,(q [r [M 4 P],q [r [m 5 0,o 6 (.eqv .ptr false (t 5) (c P))],k 6 (q [r [M 4 P],
 .ret]) .skip],.block 0 (.loop b188_0),r [m 23 0,m 24 0,o 25 (.nck (t 24)),f 26 0 25,l 27 26,m 28 1,o 29 (.cvt .u8 (t 28)),o 30
 (.bsl 5 1 [(.int .u8 0)] [(0,(1,(t 29)))]),o 31 (.app 5 1 1 (t 27) (t 30)),o 32 (.nck (t 23)),f 33 0 32,O (.st (t 33) (t 31))],r [m 34 0,m 4 34],
 .ret]),[(.t 4)]⟩:zaa)=y}).1
def k189:zaa:=(⟨_,by first|(simp only[nf];exact rfl)|rfl⟩:{y//(⟨12,(q [r [M 4 P],r [m 5 0,m 6 1,o 7 (.lenS (t 6)),o 8 (.cvt .u64 (t 7)),
 C 9 188 [(t 5),(t 8)],m 10 1,C 11 167 [(t 9),(t 10)],m 4 11],.ret]),[(.t 4)]⟩:zaa)=y}).1
def b191_0:zae:=(⟨_,by first|(simp only[nf];exact rfl)|rfl⟩:{y//(q [r [v 9 .lss 8 7],k 9 .skip (.exit 0),.block 1 (q [r [m 10 8,m 5 10],r [o 11
 (.ldn 2 (t 2)),m 12 1,m 13 5,o 14 (.idS (t 12) (t 13)),C 15 169 [(t 11),(t 14)],O (.stn 2 (t 2) (t 15))]]),r [u 16 .add 8 1,m 8 16]])=y}).1
def k191:zaa:=(⟨_,by first|(simp only[nf];exact rfl)|rfl⟩:{y//(⟨18,(q [r [o 2 (.box 97 (t 0)),o 4 (.alloc 97 [(.int .u64 0),(.int .u64 0)])],
 q [r [m 6 1,o 7 (.lenS (t 6)),M 8 (n 0)],.block 0 (.loop b191_0)],r [o 17 (.ldn 2 (t 2)),O (.stn 2 (t 4) (t 17))],.ret]),[(.cn 4 2)]⟩:zaa)=y}).1
def k192:zaa:=(⟨_,by first|(simp only[nf];exact rfl)|rfl⟩:{y//(⟨41,(q [r [M 6 (n 0),M 7 E],q [r [m 12 0,C 13 209 [(t 12)]],k 13 (q [r [m 14 0,o 15
 (.slS (t 14) none (some (c (n 1)))),M 6 (n 1),m 7 15],.ret]) .skip],r [m 16 1,m 17 0,m 18 2,C 19 210 [(t 16),(t 17),(t 18)],m 8 19],r [m 21 8,
 C 22 211 [(t 21)],m 20 22,x 23 20 0,x 24 20 1,m 9 23,m 10 24],q [r [m 25 0,m 26 8,C 27 213 [(t 25),(t 26)],C 28 212 [(t 27)],m 29 9,v 30 .add 28 29,
 m 11 30],r [m 31 10,m 32 31,h 33 32 true 11,g 34 32 true (.lenS (t 33)),h 35 32 true 0,g 36 32 true (.lenS (t 35)),g 37 32 true (.bin .lss (t 34)
 (t 36)),a 38 32 37],k 38 (q [r [m 39 11,M 6 (n 2),m 7 39],.ret]) .skip],r [m 40 0,M 6 (n 0),m 7 40],.ret]),[(.t 6),(.t 7)]⟩:zaa)=y}).1
def k193:zaa:=(⟨_,by first|(simp only[nf];exact rfl)|rfl⟩:{y//(⟨19,(q [r [o 1 (.box 235 (t 0)),M 2 P],r [o 3 (.alloc 203 [(.slice none 0 0)])],
 r [f 4 0 1,l 5 4,o 6 (.cvt .u64 (t 5)),f 8 1 1,l 9 8,o 10 (.cvt .u64 (t 9)),f 12 2 1,l 13 12,o 14 (.cvt .u64 (t 13)),f 16 3 1,l 17 16,C 7 166 [(t 3),
 (t 6),(c (n 1))],(.chk 9 none (.ld (t 8))),(.chk 13 none (.ld (t 12))),(.chk 17 none (.ld (t 16))),C 11 188 [(t 7),(t 10)],(.chk 13 none (.ld
 (t 12))),(.chk 17 none (.ld (t 16))),C 15 188 [(t 11),(t 14)],(.chk 17 none (.ld (t 16))),C 18 166 [(t 15),(t 17),(c (n 8))],m 2 18],.ret]),
 [(.t 2)]⟩:zaa)=y}).1
def k194:zaa:=(⟨_,by first|(simp only[nf];exact rfl)|rfl⟩:{y//(⟨6,(q [r [M 2 (n 0)],r [m 3 0,o 4 (.mx (t 3) [(c (n 0))]),o 5 (.mn (t 4) [(c
 (n 8))]),m 2 5],.ret]),[(.t 2)]⟩:zaa)=y}).1
def k195:zaa:=(⟨_,by first|(simp only[nf];exact rfl)|rfl⟩:{y//(⟨25,(q [r [o 2 (.alloc 235 [(.int .i64 0),(.int .i64 0),(.int .i64 0),
 (.int .u64 0)]),M 3 (n 0)],r [m 5 0,C 6 184 [(t 5),(c (n 1))],o 7 (.cvt .i64 (t 6)),m 8 0,C 9 185 [(t 8),(c (n 1073741824))],m 10 0,C 11 185 [(t 10),
 (c (n 1099511627776))],o 12 (.build [(.int .i64 0),(.int .i64 0),(.int .i64 0),(.int .u64 0)] [(0,(1,(t 7))),(1,(1,(t 9))),(2,(1,(t 11)))]),o 4
 (.alloc 235 [(.int .i64 0),(.int .i64 0),(.int .i64 0),(.int .u64 0)]),O (.stn 4 (t 4) (t 12))],r [m 13 0,C 14 184 [(t 13),(c (n 8))],f 15 3 4,O
 (.st (t 15) (t 14))],q [r [m 16 0,C 17 207 [(t 16)],m 18 17,g 19 18 false (.fad 0 (t 4)),g 20 18 false (.ld (t 19)),g 21 18 false (.bin .gtr (t 20)
 (c (n 2))),p 22 18 21],k 22 (q [r [o 23 (.build [(.int .i64 0),(.int .i64 0),(.int .i64 0),(.int .u64 0)] []),O (.stn 4 (t 2) (t 23)),M 3 (n 3)],
 .ret]) .skip],r [o 24 (.ldn 4 (t 4)),O (.stn 4 (t 2) (t 24)),M 3 (n 0)],.ret]),[(.cn 2 4),(.t 3)]⟩:zaa)=y}).1
def k196:zaa:=(⟨_,by first|(simp only[nf];exact rfl)|rfl⟩:{y//(⟨23,(q [r [M 4 E,M 5 F],q [r [m 8 0,o 9 (.eqv .ptr false (t 8) (c P))],k 9
 (q [r [M 4 E,M 5 F],.ret]) .skip],q [r [m 10 1,u 11 .eql 10 0],k 11 (q [r [M 4 E,M 5 T],.ret]) .skip],r [m 13 0,o 14 (.nck (t 13)),f 15 2 14,l 16 15,
 m 17 1,o 18 (.lkp (.s .int) (.string (bs [])) true (t 16) (t 17)),m 12 18,x 19 12 0,x 20 12 1,m 6 19,m 7 20],r [m 21 6,m 22 7,m 4 21,m 5 22],.ret]),
 [(.t 4),(.t 5)]⟩:zaa)=y}).1
def k198:zaa:=(⟨_,by first|(simp only[nf];exact rfl)|rfl⟩:{y//(⟨37,(q [r [o 3 (.box 118 (t 1)),o 4 (.alloc 212 [(.int .i64 0),(.int .i64 0),
 (.int .i64 0),(.int .i64 0),(.int .u64 0),(.string (bs [])),(.int .i64 0)])],.block 0 (q [r [m 6 0,o 7 (.nck (t 6)),f 8 1 7,l 9 8,m 5 9],k 5
 (q [r [C 10 214 [(c (n 6))],O (.stn 7 (t 4) (t 10))],.ret]) (q [r [f 12 1 3,l 13 12,m 14 0,o 15 (.nck (t 14)),f 16 0 15,l 17 16,C 18 50 [(t 17)],
 (.chk 13 none (.ld (t 12))),v 19 .neq 13 18,m 11 19],k 11 (q [r [C 20 214 [(c (n 7))],O (.stn 7 (t 4) (t 20))],.ret]) (q [r [m 22 0,f 23 2 3,l 24 23,
 C 25 215 [(t 22),(t 24)],o 26 (.un .not (t 25)),m 21 26],k 21 (q [r [C 27 214 [(c (n 8))],O (.stn 7 (t 4) (t 27))],.ret]) .skip])])]),r [m 28 0,
 m 29 0,f 30 2 3,l 31 30,o 32 (.nck (t 28)),f 33 1 32,O (.st (t 33) (c T)),(.chk 31 none (.ld (t 30))),o 34 (.nck (t 29)),f 35 2 34,O (.st (t 35)
 (t 31))],r [o 36 (.build [(.int .i64 0),(.int .i64 0),(.int .i64 0),(.int .i64 0),(.int .u64 0),(.string (bs [])),(.int .i64 0)] []),O (.stn 7 (t 4)
 (t 36))],.ret]),[(.cn 4 7)]⟩:zaa)=y}).1
def k201:zaa:=(⟨_,by first|(simp only[nf];exact rfl)|rfl⟩:{y//(⟨79,(q [r [o 3 (.box 118 (t 1)),o 4 (.alloc 212 [(.int .i64 0),(.int .i64 0),
 (.int .i64 0),(.int .i64 0),(.int .u64 0),(.string (bs [])),(.int .i64 0)])],.block 0 (q [r [m 12 0,o 13 (.nck (t 12)),f 14 3 13,l 15 14,o 16
 (.eqv .ptr true (t 15) (c P)),m 11 16],k 11 (q [r [C 17 214 [(c (n 6))],O (.stn 7 (t 4) (t 17))],.ret]) (q [r [f 19 1 3,l 20 19,m 21 0,o 22 (.nck
 (t 21)),f 23 0 22,l 24 23,C 25 50 [(t 24)],(.chk 20 none (.ld (t 19))),v 26 .neq 20 25,m 18 26],k 18 (q [r [C 27 214 [(c (n 7))],O (.stn 7 (t 4)
 (t 27))],.ret]) .skip])]),r [f 29 5 3,l 30 29,C 31 172 [(t 30)],m 28 31,x 32 28 0,x 33 28 1,m 5 32,m 6 33],q [r [m 34 6,u 35 .neq 34 0],k 35
 (q [r [m 36 6,C 37 214 [(t 36)],O (.stn 7 (t 4) (t 37))],.ret]) .skip],r [m 39 0,C 40 173 [(t 39)],m 38 40,x 41 38 0,x 42 38 1,m 7 41,m 8 42],
 q [r [m 43 5,m 44 0,o 45 (.nck (t 44)),f 46 2 45,l 47 46,v 48 .neq 43 47,m 49 48,h 50 49 false 8,g 51 49 false (.un .not (t 50)),p 52 49 51],k 52
 (q [r [C 53 214 [(c (n 8))],O (.stn 7 (t 4) (t 53))],.ret]) .skip],r [f 55 5 3,l 56 55,m 57 7,C 58 218 [(t 56),(t 57),(c (n 512))],m 54 58,x 59 54 0,
 x 60 54 1,m 9 59,m 6 60],q [r [m 61 6,u 62 .neq 61 0],k 62 (q [r [m 63 6,C 64 214 [(t 63)],O (.stn 7 (t 4) (t 64))],.ret]) .skip],q [r [m 65 0,o 66
 (.nck (t 65)),f 67 0 66,l 68 67,f 69 1 3,l 70 69,m 71 9,C 72 219 [(t 68),(t 70),(t 71)],m 10 72],r [m 73 10,u 74 .neq 73 0],k 74 (q [r [m 75 10,
 C 76 214 [(t 75)],O (.stn 7 (t 4) (t 76))],.ret]) .skip],r [m 77 0,C 78 220 [(t 77)],O (.stn 7 (t 4) (t 78))],.ret]),[(.cn 4 7)]⟩:zaa)=y}).1
def k205:zaa:=(⟨_,by first|(simp only[nf];exact rfl)|rfl⟩:{y//(⟨37,(q [r [M 4 E],r [m 6 1,o 7 (.mx (t 6) [(c (n 0))]),m 1 7],q [r [m 8 0,
 C 9 207 [(t 8)],m 10 9,h 11 10 false 0,g 12 10 false (.nck (t 11)),g 13 10 false (.fad 0 (t 12)),g 14 10 false (.ld (t 13)),g 15 10 false (.lenS
 (t 14)),h 16 10 false 1,g 17 10 false (.bin .lss (t 15) (t 16)),p 18 10 17],k 18 (q [r [m 19 0,C 20 208 [(t 19)]],r [M 4 E],.ret]) .skip],r [m 21 0,
 o 22 (.nck (t 21)),f 23 0 22,l 24 23,m 25 1,o 26 (.slS (t 24) none (some (t 25))),m 5 26],r [m 27 0,m 28 0,o 29 (.nck (t 28)),f 30 0 29,l 31 30,
 m 32 1,o 33 (.slS (t 31) (some (t 32)) none),o 34 (.nck (t 27)),f 35 0 34,O (.st (t 35) (t 33))],r [m 36 5,m 4 36],.ret]),[(.t 4)]⟩:zaa)=y}).1
def b206_0:zae:=(⟨_,by first|(simp only[nf];exact rfl)|rfl⟩:{y//(q [r [u 8 .lss 7 10],k 8 .skip (.exit 0),.block 1 (q [r [m 9 7,m 4 9],r [m 10 0,
 C 11 205 [(t 10),(c (n 1))],m 5 11],q [r [m 12 5,o 13 (.bin .eql (t 12) (c E))],k 13 (q [r [M 2 (N 0)],.ret]) .skip],r [m 14 5,o 15 (.idS (t 14) (c
 (n 0))),o 16 (.cvt .u64 (t 15)),m 6 16],q [r [m 17 4,u 18 .eql 17 9,m 19 18,h 20 19 true 6,g 21 19 true (.bin .gtr (t 20) (c (N 1))),a 22 19 21,
 m 23 22,h 24 23 false 4,g 25 23 false (.bin .gtr (t 24) (c (n 0))),h 26 23 false 25,h 27 26 true 6,g 28 26 true (.bin .eql (t 27) (c (N 0))),
 g 29 23 false (.pick (t 26) (t 28) (c F)),p 30 23 29],k 30 (.exit 0) .skip],r [m 31 3,m 32 6,o 33 (.bin .and (t 32) (c (N 127))),m 34 4,o 35
 (.bin .mul (c (n 7)) (t 34)),v 36 .shl 33 35,v 37 .or 31 36,m 3 37],r [m 38 6,o 39 (.bin .lss (t 38) (c (N 128)))],k 39 (q [r [m 40 3,m 2 40],
 .ret]) .skip]),r [u 41 .add 7 1,m 7 41]])=y}).1
def k206:zaa:=(⟨_,by first|(simp only[nf];exact rfl)|rfl⟩:{y//(⟨44,(q [r [M 2 (N 0)],r [M 3 (N 0)],q [r [M 7 (n 0)],.block 0 (.loop b206_0)],
 r [m 42 0,C 43 208 [(t 42)]],r [M 2 (N 0)],.ret]),[(.t 2)]⟩:zaa)=y}).1
def k207:zaa:=(⟨_,by first|(simp only[nf];exact rfl)|rfl⟩:{y//(⟨11,(q [r [M 2 F],r [m 3 0,o 4 (.eqv .ptr false (t 3) (c P)),m 5 4,h 6 5 false 0,
 g 7 5 false (.nck (t 6)),g 8 5 false (.fad 1 (t 7)),g 9 5 false (.ld (t 8)),p 10 5 9,m 2 10],.ret]),[(.t 2)]⟩:zaa)=y}).1
def k209:zaa:=(⟨_,by first|(simp only[nf];exact rfl)|rfl⟩:{y//(⟨14,(q [r [M 2 F],r [m 3 0,o 4 (.bin .neq (t 3) (c E)),m 5 4,h 6 5 true 0,
 h 7 5 true 0,g 8 5 true (.slS (t 7) none (some (c (n 1)))),h 9 5 true 0,g 10 5 true (.lenS (t 9)),g 11 5 true (.call 226 [(t 8),(t 10)]),g 12 5 true
 (.bin .eql (t 6) (t 11)),a 13 5 12,m 2 13],.ret]),[(.t 2)]⟩:zaa)=y}).1
def b210_1:zae:=(⟨_,by first|(simp only[nf];exact rfl)|rfl⟩:{y//(q [r [v 37 .lss 36 35],k 37 .skip (.exit 0),.block 1 (q [r [m 38 36,m 10 38],
 r [m 39 9,m 40 10,C 41 231 [(t 39),(t 40)]]]),r [u 42 .add 36 1,m 36 42]])=y}).1
def b210_2:zae:=(⟨_,by first|(simp only[nf];exact rfl)|rfl⟩:{y//(q [r [v 82 .lss 81 80],k 82 .skip (.exit 4),.block 5 (q [r [m 83 9,m 84 13,
 C 85 231 [(t 83),(t 84)]],r [m 86 13,u 87 .add 86 1,m 13 87]]),r [u 88 .add 81 1,m 81 88]])=y}).1
def b210_0:zae:=(⟨_,by first|(simp only[nf];exact rfl)|rfl⟩:{y//(q [q [r [m 45 13,m 46 8,o 47 (.lenS (t 46)),v 48 .lss 45 47],k 48 .skip (.exit 2)],
 .block 3 (q [r [m 50 9,m 51 13,m 52 7,C 53 232 [(t 50),(t 51),(t 52)],m 49 53,x 54 49 0,x 55 49 1,m 14 54,m 15 55],r [m 56 9,m 57 13,
 C 58 231 [(t 56),(t 57)]],q [r [m 59 15,u 60 .eql 59 0,m 61 60,h 62 61 false 9,h 63 61 false 13,h 64 61 false 7,h 65 61 false 15,h 66 61 false 2,
 g 67 61 false (.call 233 [(t 62),(t 63),(t 64),(t 65),(t 66)]),p 68 61 67],k 68 (q [r [m 69 12,u 70 .add 69 1,m 12 70],r [m 71 13,u 72 .add 71 1,
 m 13 72],.exit 3]) .skip],r [m 73 11,m 74 12,m 75 15,m 76 14,o 77 (.build [(.int .i64 0),(.int .i64 0),(.int .i64 0)] [(0,(1,(t 74))),(1,(1,(t 75))),
 (2,(1,(t 76)))]),o 78 (.bsl 260 1 [(.int .i64 0),(.int .i64 0),(.int .i64 0)] [(0,(3,(t 77)))]),o 79 (.app 260 3 24 (t 73) (t 78)),m 11 79],r [M 12
 (n 0)],r [m 80 15,M 81 (n 0)],.block 4 (.loop b210_2)])])=y}).1
def k210:zaa:=(⟨_,by first|(simp only[nf];exact rfl)|rfl⟩:{y//(⟨90,(q [r [M 6 Z],r [m 16 2,C 17 227 [(t 16)],m 2 17],r [m 18 2,C 19 228 [(t 18)],
 m 7 19],q [r [m 20 7,u 21 .eql 20 0],k 21 (q [r [M 6 Z],.ret]) .skip],r [m 22 0,m 24 1,m 25 1,o 26 (.lenS (t 25)),o 27 (.mn (t 26) [(c (n 600))]),
 o 28 (.slS (t 24) none (some (t 27))),C 23 229 [(t 22),(c (n 600))],m 0 23,m 1 28],r [m 29 0,m 30 1,v 31 .add 29 30,m 8 31],r [m 32 8,
 C 33 230 [(t 32)],m 9 33],q [r [m 34 0,o 35 (.lenS (t 34)),M 36 (n 0)],.block 0 (.loop b210_1)],r [M 11 Z],r [M 12 (n 0)],q [r [m 43 0,o 44 (.lenS
 (t 43)),m 13 44],.block 2 (.loop b210_0)],r [m 89 11,m 6 89],.ret]),[(.t 6)]⟩:zaa)=y}).1
def b211_0:zae:=(⟨_,by first|(simp only[nf];exact rfl)|rfl⟩:{y//(q [r [u 79 .lss 78 3],k 79 .skip (.exit 4),.block 5 (q [r [o 80 (.ida 3 (t 77)
 (t 78)),m 20 80],r [m 81 20,C 82 238 [(t 81)],C 83 167 [(t 4),(t 82)]]]),r [u 84 .add 78 1,m 78 84]])=y}).1
def b211_2:zae:=(⟨_,by first|(simp only[nf];exact rfl)|rfl⟩:{y//(q [r [u 50 .lss 49 3],k 50 .skip (.exit 2),.block 3 (q [r [m 51 49,o 52 (.ida 3
 (t 48) (t 49)),m 13 51,m 14 52],r [m 54 14,C 55 236 [(t 54)],m 53 55,x 56 53 0,x 57 53 1,x 58 53 2,x 59 53 3,m 15 56,m 16 57,m 17 58,m 18 59],
 q [r [m 60 18,o 61 (.un .not (t 60))],k 61 (q [r [M 2 E,M 3 F],.ret]) .skip],r [m 62 13,m 63 13,o 64 (.iada 3 1 (t 5) (t 63)),l 65 64,m 66 15,o 67
 (.bsl 5 1 [(.int .u8 0)] [(0,(1,(t 66)))]),o 68 (.app 5 1 1 (t 65) (t 67)),o 69 (.iada 3 1 (t 5) (t 62)),O (.st (t 69) (t 68))],r [m 70 16,o 71
 (.cvt .u32 (t 70)),m 72 17,C 73 237 [(t 6),(t 71),(t 72)]]]),r [u 74 .add 49 1,m 49 74]])=y}).1
def b211_1:zae:=(⟨_,by first|(simp only[nf];exact rfl)|rfl⟩:{y//(q [r [v 36 .lss 35 34],k 36 .skip (.exit 0),.block 1 (q [r [e 37 3 33 35,o 38
 (.ldn 3 (t 37)),o 9 (.alloc 260 [(.int .i64 0),(.int .i64 0),(.int .i64 0)]),O (.stn 3 (t 9) (t 38))],r [o 40 (.ldn 3 (t 9)),o 41 (.ldn 3 (t 7)),
 C 42 235 [(t 40),(t 41)],m 39 42,x 43 39 0,x 44 39 1,x 45 39 2,o 10 (.alloc 3 [(.int .i64 0),(.int .i64 0),(.int .i64 0)]),o 11
 (.alloc 3 [(.int .i64 0),(.int .i64 0),(.int .i64 0)]),O (.stn 3 (t 10) (t 43)),O (.stn 3 (t 11) (t 44)),m 12 45],q [r [m 46 12,o 47 (.un .not
 (t 46))],k 47 (q [r [M 2 E,M 3 F],.ret]) .skip],q [r [o 48 (.ldn 3 (t 10)),M 49 (n 0)],.block 2 (.loop b211_2)],r [o 75 (.ldn 3 (t 11)),O (.stn 3
 (t 7) (t 75))]]),r [u 76 .add 35 1,m 35 76]])=y}).1
def k211:zaa:=(⟨_,by first|(simp only[nf];exact rfl)|rfl⟩:{y//(⟨89,(q [r [M 2 E,M 3 F],q [r [m 21 0,L 22 21,u 23 .gtr 22 1000],k 23 (q [r [M 2 E,
 M 3 F],.ret]) .skip],r [o 4 (.alloc 203 [(.slice none 0 0)])],r [m 24 0,L 25 24,o 26 (.cvt .u64 (t 25)),C 27 188 [(t 4),(t 26)]],q [r [m 28 0,
 L 29 28,u 30 .eql 29 0],k 30 (q [r [C 31 168 [(t 4)],m 2 31,M 3 T],.ret]) .skip],r [o 5 (.alloc 65 [(.slice none 0 0),(.slice none 0 0),
 (.slice none 0 0)])],r [o 6 (.alloc 263 [(.slice none 0 0),(.int .i64 0)])],r [C 32 234 [],o 7 (.alloc 3 [(.int .i64 0),(.int .i64 0),
 (.int .i64 0)]),O (.stn 3 (t 7) (t 32))],q [r [m 33 0,L 34 33,M 35 (n 0)],.block 0 (.loop b211_1)],q [r [o 77 (.ldn 3 (t 5)),M 78 (n 0)],.block 4
 (.loop b211_0)],r [C 85 239 [(t 6)],o 86 (.b2s 5 (t 85)),C 87 189 [(t 4),(t 86)],C 88 168 [(t 87)],m 2 88,M 3 T],.ret]),[(.t 2),
 (.t 3)]⟩:zaa)=y}).1
def k212:zaa:=(⟨_,by first|(simp only[nf];exact rfl)|rfl⟩:{y//(⟨32,(q [r [M 2 E],q [r [m 6 0,C 7 240 [(t 6)]],k 7 (q [r [m 8 0,o 9 (.lenS (t 8)),
 m 11 0,o 12 (.slS (t 11) none (some (c (n 1)))),C 10 241 [(c (n 1)),(t 9)],C 13 167 [(t 10),(t 12)],C 14 168 [(t 13)],m 2 14],.ret]) .skip],
 r [m 15 0,C 16 242 [(t 15)],m 3 16],q [r [m 18 0,C 19 243 [(t 18)],m 17 19,x 20 17 0,x 21 17 1,m 4 20,m 5 21],r [m 22 5,m 23 22,h 24 23 true 4,
 g 25 23 true (.lenS (t 24)),h 26 23 true 3,g 27 23 true (.lenS (t 26)),g 28 23 true (.bin .lss (t 25) (t 27)),a 29 23 28],k 29 (q [r [m 30 4,m 2 30],
 .ret]) .skip],r [m 31 3,m 2 31],.ret]),[(.t 2)]⟩:zaa)=y}).1
def k215:zaa:=(⟨_,by first|(simp only[nf];exact rfl)|rfl⟩:{y//(⟨17,(q [r [M 4 F],r [m 8 0,o 9 (.nck (t 8)),f 10 0 9,l 11 10,m 12 1,C 13 196 [(t 11),
 (t 12)],m 7 13,x 14 7 0,x 15 7 1,m 5 14,m 6 15],r [m 16 6,m 4 16],.ret]),[(.t 4)]⟩:zaa)=y}).1
def k218:zaa:=(⟨_,by first|(simp only[nf];exact rfl)|rfl⟩:{y//(⟨49,(q [r [M 6 E,M 7 (n 0)],r [m 13 0,C 14 183 [(t 13)],m 8 14],r [m 16 8,
 C 17 195 [(t 16)],m 15 17,x 18 15 0,x 19 15 1,o 9 (.alloc 235 [(.int .i64 0),(.int .i64 0),(.int .i64 0),(.int .u64 0)]),O (.stn 4 (t 9) (t 18)),
 m 10 19],q [r [m 20 10,u 21 .neq 20 0],k 21 (q [r [m 22 10,M 6 E,m 7 22],.ret]) .skip],q [r [f 23 2 9,l 24 23,m 25 2,v 26 .gtr 24 25,m 27 26,
 g 28 27 false (.fad 2 (t 9)),g 29 27 false (.ld (t 28)),g 30 27 false (.bin .gtr (t 29) (c (n 512))),p 31 27 30],k 31 (q [r [M 6 E,M 7 (n 5)],
 .ret]) .skip],r [m 33 8,o 34 (.ldn 4 (t 9)),m 35 1,C 36 247 [(t 33),(t 34),(t 35)],m 32 36,x 37 32 0,x 38 32 1,m 11 37,m 12 38],.block 0
 (q [r [m 40 12,o 41 (.un .not (t 40)),m 39 41],k 39 (q [r [M 6 E,M 7 (n 3)],.ret]) (q [r [m 43 11,f 45 3 9,l 46 45,C 44 162 [(t 43)],(.chk 46 none
 (.ld (t 45))),v 47 .neq 44 46,m 42 47],k 42 (q [r [M 6 E,M 7 (n 4)],.ret]) .skip])]),r [m 48 11,m 6 48,M 7 (n 0)],.ret]),[(.t 6),
 (.t 7)]⟩:zaa)=y}).1
def k219:zaa:=(⟨_,by first|(simp only[nf];exact rfl)|rfl⟩:{y//(⟨35,(q [r [M 6 (n 0)],.block 0 (q [r [m 8 0,o 9 (.eqv .ptr false (t 8) (c P)),m 7 9],
 k 7 (q [r [M 6 (n 1)],.ret]) (q [r [m 11 1,m 12 0,o 13 (.nck (t 12)),f 14 0 13,l 15 14,L 16 15,v 17 .neq 11 16,m 10 17],k 10 (q [r [M 6 (n 7)],
 .ret]) (q [r [m 19 0,o 20 (.nck (t 19)),f 21 0 20,l 22 21,L 23 22,u 24 .geq 23 400,m 18 24],k 18 (q [r [M 6 (n 2)],.ret]) .skip])])]),r [m 25 0,
 m 26 0,o 27 (.nck (t 26)),f 28 0 27,l 29 28,m 30 2,o 31 (.bsl 9 1 [(.string (bs []))] [(0,(1,(t 30)))]),o 32 (.app 9 1 16 (t 29) (t 31)),o 33 (.nck
 (t 25)),f 34 0 33,O (.st (t 34) (t 32))],r [M 6 (n 0)],.ret]),[(.t 6)]⟩:zaa)=y}).1
def k220:zaa:=(⟨_,by first|(simp only[nf];exact rfl)|rfl⟩:{y//(⟨10,(q [r [o 2 (.alloc 212 [(.int .i64 0),(.int .i64 0),(.int .i64 0),(.int .i64 0),
 (.int .u64 0),(.string (bs [])),(.int .i64 0)])],r [m 3 0,o 4 (.nck (t 3)),f 5 0 4,l 6 5,C 7 50 [(t 6)],o 8 (.build [(.int .i64 0),(.int .i64 0),
 (.int .i64 0),(.int .i64 0),(.int .u64 0),(.string (bs []))] [(0,(1,(c (n 7)))),(1,(1,(t 7)))]),o 9 (.build [(.int .i64 0),(.int .i64 0),
 (.int .i64 0),(.int .i64 0),(.int .u64 0),(.string (bs [])),(.int .i64 0)] [(0,(6,(t 8)))]),O (.stn 7 (t 2) (t 9))],.ret]),[(.cn 2 7)]⟩:zaa)=y}).1
def k227:zaa:=(⟨_,by first|(simp only[nf];exact rfl)|rfl⟩:{y//(⟨6,(q [r [M 2 (n 0)],r [m 3 0,o 4 (.mx (t 3) [(c (n 0))]),o 5 (.mn (t 4) [(c
 (n 3))]),m 2 5],.ret]),[(.t 2)]⟩:zaa)=y}).1
def k228:zaa:=(⟨_,by first|(simp only[nf];exact rfl)|rfl⟩:{y//(⟨10,(q [r [M 2 (n 0)],q [r [m 3 0,C 4 227 [(t 3)],m 0 4],r [m 5 0,u 6 .eql 5 0],k 6
 (q [r [M 2 (n 0)],.ret]) .skip],r [m 7 0,o 8 (.bin .mul (c (n 2)) (t 7)),o 9 (.bin .shl (c (n 1)) (t 8)),m 2 9],.ret]),[(.t 2)]⟩:zaa)=y}).1
def b230_0:zae:=(⟨_,by first|(simp only[nf];exact rfl)|rfl⟩:{y//(q [r [v 22 .lss 21 20],k 22 .skip (.exit 0),.block 1 (q [r [m 23 21,m 4 23],
 r [m 24 3,o 25 (.nck (t 24)),f 26 1 25,l 27 26,m 28 4,e 29 1 27 28,O (.st (t 29) (c (n (-1))))]]),r [u 30 .add 21 1,m 21 30]])=y}).1
def k230:zaa:=(⟨_,by first|(simp only[nf];exact rfl)|rfl⟩:{y//(⟨50,(q [r [M 2 P],r [m 5 0,m 6 0,o 7 (.lenS (t 6)),o 8 (.mn (t 7) [(c (n 2000))]),
 o 9 (.slS (t 5) none (some (t 8))),o 10 (.build [(.string (bs [])),(.slice none 0 0),(.slice none 0 0),(.slice none 0 0)] [(0,(1,(t 9)))]),o 11
 (.box 291 (t 10)),m 3 11],r [m 12 3,o 13 (.mks 3 [(.int .i64 0)] 8 (c (n 1024)) (c (n 1024))),o 14 (.nck (t 12)),f 15 1 14,O (.st (t 15) (t 13))],
 q [r [m 16 3,o 17 (.nck (t 16)),f 18 1 17,l 19 18,L 20 19,M 21 (n 0)],.block 0 (.loop b230_0)],r [m 31 3,m 32 3,m 33 3,o 34 (.nck (t 33)),f 35 0 34,
 l 36 35,o 37 (.lenS (t 36)),m 39 3,o 40 (.nck (t 39)),f 41 0 40,l 42 41,o 43 (.lenS (t 42)),o 38 (.mks 3 [(.int .i64 0)] 8 (t 37) (t 37)),
 (.chk 42 none (.ld (t 41))),o 45 (.nck (t 31)),f 46 2 45,O (.st (t 46) (t 38)),o 44 (.mks 4 [(.bool false)] 1 (t 43) (t 43)),(.chk 36 none (.ld
 (t 35))),o 47 (.nck (t 32)),f 48 3 47,O (.st (t 48) (t 44))],r [m 49 3,m 2 49],.ret]),[(.t 2)]⟩:zaa)=y}).1
def b237_0:zae:=(⟨_,by first|(simp only[nf];exact rfl)|rfl⟩:{y//(q [q [r [m 16 2,u 17 .gtr 16 0],k 17 .skip (.exit 0)],.block 1 (q [r [m 18 0,o 19
 (.nck (t 18)),f 20 1 19,l 21 20,u 22 .and 21 7,m 7 22],q [r [m 23 7,u 24 .eql 23 0],k 24 (r [m 25 0,m 26 0,o 27 (.nck (t 26)),f 28 0 27,l 29 28,o 30
 (.bsl 5 1 [(.int .u8 0)] [(0,(1,(c (.int .u8 0))))]),o 31 (.app 5 1 1 (t 29) (t 30)),o 32 (.nck (t 25)),f 33 0 32,O (.st (t 33) (t 31))]) .skip],
 r [m 34 2,m 35 7,o 36 (.bin .sub (c (n 8)) (t 35)),o 37 (.mn (t 34) [(t 36)]),m 8 37],r [m 38 0,o 39 (.nck (t 38)),f 40 0 39,l 41 40,m 42 0,o 43
 (.nck (t 42)),f 44 0 43,l 45 44,L 46 45,u 47 .sub 46 1,e 48 1 41 47,l 49 48,m 50 1,m 51 8,o 52 (.bin .shl (c (.int .u32 1)) (t 51)),o 53 (.bin .sub
 (t 52) (c (.int .u32 1))),v 54 .and 50 53,o 55 (.cvt .u8 (t 54)),m 56 7,v 57 .shl 55 56,v 58 .or 49 57,e 59 1 41 47,O (.st (t 59) (t 58))],r [m 60 1,
 m 61 8,v 62 .shr 60 61,m 1 62],r [m 63 0,o 64 (.nck (t 63)),f 65 1 64,l 66 65,m 67 8,v 68 .add 66 67,o 69 (.nck (t 63)),f 70 1 69,O (.st (t 70)
 (t 68))],r [m 71 2,m 72 8,v 73 .sub 71 72,m 2 73]])])=y}).1
def k237:zaa:=(⟨_,by first|(simp only[nf];exact rfl)|rfl⟩:{y//(⟨74,(q [r [M 6 F],q [r [m 9 0,o 10 (.eqv .ptr false (t 9) (c P)),m 11 10,
 h 12 11 false 2,g 13 11 false (.call 257 [(t 12)]),g 14 11 false (.un .not (t 13)),p 15 11 14],k 15 (q [r [M 6 F],.ret]) .skip],.block 0
 (.loop b237_0),r [M 6 T],.ret]),[(.t 6)]⟩:zaa)=y}).1
def k239:zaa:=(⟨_,by first|(simp only[nf];exact rfl)|rfl⟩:{y//(⟨10,(q [r [M 2 Z],q [r [m 3 0,o 4 (.eqv .ptr false (t 3) (c P))],k 4 (q [r [M 2 Z],
 .ret]) .skip],r [m 5 0,o 6 (.nck (t 5)),f 7 0 6,l 8 7,o 9 (.app 5 1 1 (c Z) (t 8)),m 2 9],.ret]),[(.t 2)]⟩:zaa)=y}).1
def k240:zaa:=(⟨_,by first|(simp only[nf];exact rfl)|rfl⟩:{y//(⟨14,(q [r [M 2 F],r [m 3 0,o 4 (.bin .neq (t 3) (c E)),m 5 4,h 6 5 true 0,
 h 7 5 true 0,g 8 5 true (.slS (t 7) none (some (c (n 1)))),h 9 5 true 0,g 10 5 true (.lenS (t 9)),g 11 5 true (.call 226 [(t 8),(t 10)]),g 12 5 true
 (.bin .eql (t 6) (t 11)),a 13 5 12,m 2 13],.ret]),[(.t 2)]⟩:zaa)=y}).1
def k241:zaa:=(⟨_,by first|(simp only[nf];exact rfl)|rfl⟩:{y//(⟨12,(q [r [M 4 P],r [o 5 (.alloc 203 [(.slice none 0 0)])],r [m 6 0,o 7 (.cvt .u64
 (t 6)),C 8 166 [(t 5),(t 7),(c (n 1))],m 9 1,o 10 (.cvt .u64 (t 9)),C 11 188 [(t 8),(t 10)],m 4 11],.ret]),[(.t 4)]⟩:zaa)=y}).1
def k242:zaa:=(⟨_,by first|(simp only[nf];exact rfl)|rfl⟩:{y//(⟨9,(q [r [M 2 E],r [m 3 0,o 4 (.lenS (t 3)),C 5 241 [(c (n 0)),(t 4)],m 6 0,
 C 7 167 [(t 5),(t 6)],C 8 168 [(t 7)],m 2 8],.ret]),[(.t 2)]⟩:zaa)=y}).1
def k243:zaa:=(⟨_,by first|(simp only[nf];exact rfl)|rfl⟩:{y//(⟨39,(q [r [M 2 E,M 3 F],r [m 10 0,o 11 (.s2b 5 (t 10)),C 12 263 [(t 11)],
 C 13 262 [(t 12)],m 9 13,x 14 9 0,x 15 9 1,m 4 14,m 5 15],q [r [m 16 5,o 17 (.un .not (t 16))],k 17 (q [r [M 2 E,M 3 F],.ret]) .skip],r [m 19 4,
 C 20 264 [(t 19)],m 18 20,x 21 18 0,x 22 18 1,m 6 21,m 7 22],r [m 24 4,m 25 0,o 26 (.s2b 5 (t 25)),C 27 265 [(t 24),(t 26)],m 23 27,x 28 23 0,
 x 29 23 1,m 8 28,m 5 29],r [m 30 0,o 31 (.lenS (t 30)),C 32 241 [(c (n 2)),(t 31)],m 33 6,C 34 167 [(t 32),(t 33)],m 35 8,C 36 189 [(t 34),(t 35)],
 C 37 168 [(t 36)],m 38 5,m 2 37,m 3 38],.ret]),[(.t 2),(.t 3)]⟩:zaa)=y}).1
def k247:zaa:=(⟨_,by first|(simp only[nf];exact rfl)|rfl⟩:{y//(⟨38,(q [r [o 4 (.box 235 (t 1)),M 6 E,M 7 F],q [r [f 10 0 4,l 11 10],.block 0
 (q [r [u 13 .eql 11 0,m 12 13],k 12 (q [r [m 14 0,f 15 2 4,l 16 15,C 17 205 [(t 14),(t 16)],m 8 17],r [m 18 8,m 19 0,C 20 187 [(t 19)],m 6 18,
 m 7 20],.ret]) (q [r [u 22 .eql 11 1,m 21 22],k 21 (q [r [m 23 0,C 24 205 [(t 23),(c (n 1))],m 9 24],r [m 25 9,f 26 2 4,l 27 26,C 28 226 [(t 25),
 (t 27)],m 29 0,C 30 187 [(t 29)],m 6 28,m 7 30],.ret]) .skip])])],r [m 31 0,m 32 2,f 33 2 4,l 34 33,C 35 268 [(t 31),(t 32),(t 34)],x 36 35 0,
 x 37 35 1,m 6 36,m 7 37],.ret]),[(.t 6),(.t 7)]⟩:zaa)=y}).1
def k257:zaa:=(⟨_,by first|(simp only[nf];exact rfl)|rfl⟩:{y//(⟨9,(q [r [M 2 F],r [m 3 0,u 4 .geq 3 0,m 5 4,h 6 5 true 0,g 7 5 true (.bin .leq
 (t 6) (c (n 32))),a 8 5 7,m 2 8],.ret]),[(.t 2)]⟩:zaa)=y}).1
def k262:zaa:=(⟨_,by first|(simp only[nf];exact rfl)|rfl⟩:{y//(⟨39,(q [r [M 2 Z,M 3 F],q [r [m 8 0,C 9 282 [(t 8)],o 10 (.un .not (t 9))],k 10
 (q [r [M 2 Z,M 3 F],.ret]) .skip],r [m 12 0,C 13 283 [(t 12)],m 11 13,x 14 11 0,x 15 11 1,m 4 14,m 5 15],r [m 16 0,L 17 16,o 18
 (.mks 3 [(.int .i64 0)] 8 (t 17) (t 17)),o 6 (.alloc 36 [(.slice none 0 0)]),O (.st (t 6) (t 18))],q [r [m 19 4,o 20 (.nck (t 19)),f 21 2 20,l 22 21,
 u 23 .geq 22 0],k 23 (q [r [l 24 6,m 25 4,o 26 (.nck (t 25)),f 27 2 26,l 28 27,e 29 1 24 28,O (.st (t 29) (c (n 1)))],r [l 30 6,m 2 30,M 3 T],
 .ret]) .skip],r [o 7 (.alloc 3 [(.int .i64 0)]),O (.st (t 7) (c (n 0)))],r [m 31 4,o 32 (.mkf (.func 285) [] [(t 6),(t 7)]),C 33 284 [(t 31),(c
 (n 0)),(t 32)]],q [r [l 34 7,u 35 .gtr 34 11],k 35 (q [r [m 36 0,C 37 286 [(t 36)],m 2 37,M 3 T],.ret]) .skip],r [l 38 6,m 2 38,M 3 T],.ret]),
 [(.t 2),(.t 3)]⟩:zaa)=y}).1
def b263_1:zae:=(⟨_,by first|(simp only[nf];exact rfl)|rfl⟩:{y//(q [q [r [m 12 3,L 13 12,m 14 5,o 15 (.cvt .i64 (t 14)),v 16 .leq 13 15],k 16 .skip
 (.exit 2)],.block 3 (r [m 17 3,o 18 (.bsl 3 1 [(.int .i64 0)] [(0,(1,(c (n 0))))]),o 19 (.app 3 1 8 (t 17) (t 18)),m 3 19])])=y}).1
def b263_0:zae:=(⟨_,by first|(simp only[nf];exact rfl)|rfl⟩:{y//(q [r [v 9 .lss 8 7],k 9 .skip (.exit 0),.block 1 (q [r [e 10 1 6 8,l 11 10,m 5 11],
 .block 2 (.loop b263_1),r [m 20 3,m 21 5,e 22 1 20 21,l 23 22,u 24 .add 23 1,e 25 1 20 21,O (.st (t 25) (t 24))]]),r [u 26 .add 8 1,m 8 26]])=y}).1
def k263:zaa:=(⟨_,by first|(simp only[nf];exact rfl)|rfl⟩:{y//(⟨28,(q [r [M 2 Z],r [M 3 Z],q [r [m 6 0,L 7 6,M 8 (n 0)],.block 0 (.loop b263_0)],
 r [m 27 3,m 2 27],.ret]),[(.t 2)]⟩:zaa)=y}).1
def b264_0:zae:=(⟨_,by first|(simp only[nf];exact rfl)|rfl⟩:{y//(q [q [r [m 18 6,m 19 4,L 20 19,v 21 .lss 18 20],k 21 .skip (.exit 0)],.block 1
 (q [r [m 24 4,m 25 6,e 26 1 24 25,l 27 26,o 28 (.cvt .u8 (t 27)),m 7 28],q [r [m 29 6,u 30 .add 29 1,m 31 4,L 32 31,v 33 .lss 30 32],k 33 (r [m 34 7,
 m 35 4,m 36 6,u 37 .add 36 1,e 38 1 35 37,l 39 38,o 40 (.cvt .u8 (t 39)),o 41 (.bin .shl (t 40) (c (N 4))),v 42 .or 34 41,m 7 42]) .skip],r [m 43 5,
 m 44 7,o 45 (.bsl 5 1 [(.int .u8 0)] [(0,(1,(t 44)))]),o 46 (.app 5 1 1 (t 43) (t 45)),m 5 46]]),r [m 22 6,u 23 .add 22 2,m 6 23]])=y}).1
def k264:zaa:=(⟨_,by first|(simp only[nf];exact rfl)|rfl⟩:{y//(⟨49,(q [r [M 2 E,M 3 F],q [r [m 8 0,C 9 287 [(t 8)],o 10 (.un .not (t 9))],k 10
 (q [r [M 2 E,M 3 F],.ret]) .skip],r [m 11 0,C 12 288 [(t 11)],m 4 12],r [m 13 4,L 14 13,u 15 .sub 14 1,o 16 (.cvt .u8 (t 15)),o 17
 (.bsl 5 1 [(.int .u8 0)] [(0,(1,(t 16)))]),m 5 17],q [r [M 6 (n 0)],.block 0 (.loop b264_0)],r [m 47 5,o 48 (.b2s 5 (t 47)),m 2 48,M 3 T],.ret]),
 [(.t 2),(.t 3)]⟩:zaa)=y}).1
def b265_0:zae:=(⟨_,by first|(simp only[nf];exact rfl)|rfl⟩:{y//(q [r [v 21 .lss 20 19],k 21 .skip (.exit 0),.block 1 (q [r [e 22 1 18 20,l 23 22,
 m 10 23],q [r [m 24 10,o 25 (.cvt .i64 (t 24)),m 26 0,L 27 26,v 28 .geq 25 27,m 29 28,h 30 29 false 0,h 31 29 false 10,g 32 29 false (.iad 1 (t 30)
 (t 31)),g 33 29 false (.ld (t 32)),g 34 29 false (.bin .eql (t 33) (c (n 0))),p 35 29 34],k 35 (q [r [M 4 E,M 5 F],.ret]) .skip],r [m 36 6,m 37 10,
 e 38 1 36 37,l 39 38,m 40 0,m 41 10,e 42 1 40 41,l 43 42,m 45 0,m 46 10,e 47 1 45 46,l 48 47,C 44 290 [(t 39),(t 43)],(.chk 48 none (.ld (t 47))),
 C 49 237 [(t 8),(t 44),(t 48)]]]),r [u 50 .add 20 1,m 20 50]])=y}).1
def k265:zaa:=(⟨_,by first|(simp only[nf];exact rfl)|rfl⟩:{y//(⟨53,(q [r [M 4 E,M 5 F],r [m 12 0,C 13 289 [(t 12)],m 11 13,x 14 11 0,x 15 11 1,
 m 6 14,m 7 15],q [r [m 16 7,o 17 (.un .not (t 16))],k 17 (q [r [M 4 E,M 5 F],.ret]) .skip],r [o 8 (.alloc 263 [(.slice none 0 0),(.int .i64 0)])],
 q [r [m 18 1,L 19 18,M 20 (n 0)],.block 0 (.loop b265_0)],r [C 51 239 [(t 8)],o 52 (.b2s 5 (t 51)),m 4 52,M 5 T],.ret]),[(.t 4),
 (.t 5)]⟩:zaa)=y}).1
def b282_0:zae:=(⟨_,by first|(simp only[nf];exact rfl)|rfl⟩:{y//(q [r [v 11 .lss 10 9],k 11 .skip (.exit 0),.block 1 (q [r [e 12 1 8 10,l 13 12,
 m 4 13],r [m 14 4,u 15 .lss 14 0,m 16 15,h 17 16 false 4,g 18 16 false (.bin .gtr (t 17) (c (n 1048576))),p 19 16 18],k 19 (q [r [M 2 F],
 .ret]) .skip]),r [u 20 .add 10 1,m 10 20]])=y}).1
def k282:zaa:=(⟨_,by first|(simp only[nf];exact rfl)|rfl⟩:{y//(⟨24,(q [r [M 2 F],q [r [m 5 0,L 6 5,u 7 .gtr 6 256],k 7 (q [r [M 2 F],.ret]) .skip],
 q [r [m 8 0,L 9 8,M 10 (n 0)],.block 0 (.loop b282_0)],r [m 21 0,C 22 295 [(t 21)],u 23 .gtr 22 0,m 2 23],.ret]),[(.t 2)]⟩:zaa)=y}).1
def b283_1:zae:=(⟨_,by first|(simp only[nf];exact rfl)|rfl⟩:{y//(q [r [v 17 .lss 16 15],k 17 .skip (.exit 0),.block 1 (q [r [m 18 16,e 19 1 14 16,
 l 20 19,m 5 18,m 6 20],r [m 21 6,u 22 .gtr 21 0],k 22 (r [m 23 4,m 24 4,o 25 (.nck (t 24)),l 26 25,m 27 6,m 28 5,m 29 5,o 30 (.build [(.int .i64 0),
 (.int .i64 0),(.int .i64 0),(.pointer none),(.pointer none)] [(0,(1,(t 27))),(1,(1,(t 28))),(2,(1,(t 29)))]),o 31 (.box 325 (t 30)),o 32
 (.bsl 321 1 [(.pointer none)] [(0,(1,(t 31)))]),o 33 (.app 321 1 8 (t 26) (t 32)),o 34 (.nck (t 23)),O (.st (t 34) (t 33))]) .skip]),
 r [u 35 .add 16 1,m 16 35]])=y}).1
def b283_0:zae:=(⟨_,by first|(simp only[nf];exact rfl)|rfl⟩:{y//(q [q [r [m 39 4,o 40 (.nck (t 39)),l 41 40,C 42 307 [(t 41)],u 43 .gtr 42 1],
 k 43 .skip (.exit 2)],.block 3 (q [r [m 46 4,C 47 308 [(t 46)],m 48 4,C 49 308 [(t 48)],m 9 47,m 10 49],r [m 50 9,o 51 (.nck (t 50)),f 52 0 51,
 l 53 52,m 54 10,o 55 (.nck (t 54)),f 56 0 55,l 57 56,v 58 .add 53 57,m 59 8,m 60 9,m 61 10,o 62 (.build [(.int .i64 0),(.int .i64 0),(.int .i64 0),
 (.pointer none),(.pointer none)] [(0,(1,(t 58))),(1,(1,(t 59))),(2,(1,(c (n (-1))))),(3,(1,(t 60))),(4,(1,(t 61)))]),o 63 (.box 325 (t 62)),m 11 63],
 r [m 64 7,m 65 11,o 66 (.nck (t 65)),f 67 0 66,l 68 67,v 69 .add 64 68,m 7 69],r [m 70 4,o 71 (.mki 345 (t 70)),m 72 11,o 73 (.mki 321 (t 72)),
 C 74 143 [(t 71),(t 73)]]]),r [m 44 8,u 45 .add 44 1,m 8 45]])=y}).1
def k283:zaa:=(⟨_,by first|(simp only[nf];exact rfl)|rfl⟩:{y//(⟨78,(q [r [M 2 P,M 3 (n 0)],r [o 12 (.bsl 321 0 [] []),o 13 (.box 347 (t 12)),
 m 4 13],q [r [m 14 0,L 15 14,M 16 (n 0)],.block 0 (.loop b283_1)],r [m 36 4,o 37 (.mki 345 (t 36)),C 38 140 [(t 37)]],r [M 7 (n 0)],q [r [M 8
 (n 256)],.block 2 (.loop b283_0)],r [m 75 4,C 76 308 [(t 75)],m 77 7,m 2 76,m 3 77],.ret]),[(.t 2),(.t 3)]⟩:zaa)=y}).1
def k284:zaa:=(⟨_,by first|(simp only[nf];exact rfl)|rfl⟩:{y//(⟨34,(q [q [r [m 6 0,o 7 (.nck (t 6)),f 8 2 7,l 9 8,u 10 .geq 9 0],k 10 (q [r [m 11 2,
 m 12 0,o 13 (.nck (t 12)),f 14 2 13,l 15 14,m 16 1,o 17 (.callv (t 11) [(t 15),(t 16)])],.ret]) .skip],r [m 18 0,o 19 (.nck (t 18)),f 20 3 19,
 l 21 20,m 22 1,u 23 .add 22 1,m 24 2,C 25 284 [(t 21),(t 23),(t 24)]],r [m 26 0,o 27 (.nck (t 26)),f 28 4 27,l 29 28,m 30 1,u 31 .add 30 1,m 32 2,
 C 33 284 [(t 29),(t 31),(t 32)]]]),[]⟩:zaa)=y}).1
def k285:zaa:=(⟨_,by first|(simp only[nf];exact rfl)|rfl⟩:{y//(⟨13,(q [r [l 6 2,m 7 0,m 8 1,e 9 1 6 7,O (.st (t 9) (t 8))],r [l 10 3,m 11 1,o 12
 (.mx (t 10) [(t 11)]),O (.st (t 3) (t 12))]]),[]⟩:zaa)=y}).1
def b287_0:zae:=(⟨_,by first|(simp only[nf];exact rfl)|rfl⟩:{y//(q [r [v 14 .lss 13 12],k 14 .skip (.exit 0),.block 1 (q [r [e 15 1 11 13,l 16 15,
 m 7 16],r [m 17 7,u 18 .gtr 17 0],k 18 (q [r [m 19 3,m 20 7,o 21 (.bin .sub (c (n 11)) (t 20)),o 22 (.bin .shl (c (n 1)) (t 21)),v 23 .sub 19 22,
 m 3 23],r [m 24 4,u 25 .add 24 1,m 4 25],r [m 26 7,u 27 .eql 26 1,m 5 27]]) .skip]),r [u 28 .add 13 1,m 13 28]])=y}).1
def k287:zaa:=(⟨_,by first|(simp only[nf];exact rfl)|rfl⟩:{y//(⟨38,(q [r [M 2 F],q [r [m 8 0,C 9 312 [(t 8)],o 10 (.un .not (t 9))],k 10
 (q [r [M 2 F],.ret]) .skip],r [M 3 (n 2048),M 4 (n 0),M 5 F],q [r [m 11 0,L 12 11,M 13 (n 0)],.block 0 (.loop b287_0)],r [m 29 3,u 30 .eql 29 0,
 m 31 30,h 32 31 false 4,g 33 31 false (.bin .eql (t 32) (c (n 1))),h 34 31 false 33,h 35 34 true 5,g 36 31 false (.pick (t 34) (t 35) (c F)),
 p 37 31 36,m 2 37],.ret]),[(.t 2)]⟩:zaa)=y}).1
def b288_0:zae:=(⟨_,by first|(simp only[nf];exact rfl)|rfl⟩:{y//(q [q [r [m 6 3,u 7 .gtr 6 0,m 8 7,h 9 8 true 0,h 10 8 true 3,g 11 8 true
 (.bin .sub (t 10) (c (n 1))),g 12 8 true (.iad 1 (t 9) (t 11)),g 13 8 true (.ld (t 12)),g 14 8 true (.bin .eql (t 13) (c (n 0))),a 15 8 14],
 k 15 .skip (.exit 0)],.block 1 (r [m 16 3,u 17 .sub 16 1,m 3 17])])=y}).1
def k288:zaa:=(⟨_,by first|(simp only[nf];exact rfl)|rfl⟩:{y//(⟨21,(q [r [M 2 Z],r [m 4 0,L 5 4,m 3 5],.block 0 (.loop b288_0),r [m 18 0,m 19 3,
 o 20 (.slc 3 1 (t 18) none (some (t 19))),m 2 20],.ret]),[(.t 2)]⟩:zaa)=y}).1
def b289_1:zae:=(⟨_,by first|(simp only[nf];exact rfl)|rfl⟩:{y//(q [r [v 22 .lss 21 20],k 22 .skip (.exit 2),.block 3 (q [r [m 23 21,e 24 1 19 21,
 l 25 24,m 7 23,m 8 25],r [m 26 8,m 27 6,v 28 .eql 26 27],k 28 (q [r [m 29 4,m 30 7,m 31 5,e 32 1 29 30,O (.st (t 32) (t 31))],r [m 33 5,
 u 34 .add 33 1,m 5 34]]) .skip]),r [u 35 .add 21 1,m 21 35]])=y}).1
def b289_0:zae:=(⟨_,by first|(simp only[nf];exact rfl)|rfl⟩:{y//(q [q [r [m 15 6,u 16 .leq 15 11],k 16 .skip (.exit 0)],.block 1 (q [q [r [m 19 0,
 L 20 19,M 21 (n 0)],.block 2 (.loop b289_1)],r [m 36 5,o 37 (.bin .shl (t 36) (c (N 1))),m 5 37]]),r [m 17 6,u 18 .add 17 1,m 6 18]])=y}).1
def k289:zaa:=(⟨_,by first|(simp only[nf];exact rfl)|rfl⟩:{y//(⟨39,(q [r [M 2 Z,M 3 F],q [r [m 9 0,C 10 287 [(t 9)],o 11 (.un .not (t 10))],k 11
 (q [r [M 2 Z,M 3 F],.ret]) .skip],r [m 12 0,L 13 12,o 14 (.mks 3 [(.int .i64 0)] 8 (t 13) (t 13)),m 4 14],r [M 5 (n 0)],q [r [M 6 (n 1)],.block 0
 (.loop b289_0)],r [m 38 4,m 2 38,M 3 T],.ret]),[(.t 2),(.t 3)]⟩:zaa)=y}).1
def b290_0:zae:=(⟨_,by first|(simp only[nf];exact rfl)|rfl⟩:{y//(q [r [v 8 .lss 7 6],k 8 .skip (.exit 0),.block 1 (q [r [m 9 5,o 10 (.bin .shl
 (t 9) (c (N 1))),m 11 0,u 12 .and 11 1,o 13 (.cvt .u32 (t 12)),v 14 .or 10 13,m 5 14],r [m 15 0,o 16 (.bin .shr (t 15) (c (N 1))),m 0 16]]),
 r [u 17 .add 7 1,m 7 17]])=y}).1
def k290:zaa:=(⟨_,by first|(simp only[nf];exact rfl)|rfl⟩:{y//(⟨19,(q [r [M 4 (.int .u32 0)],r [M 5 (.int .u32 0)],q [r [m 6 1,M 7 (n 0)],.block 0
 (.loop b290_0)],r [m 18 5,m 4 18],.ret]),[(.t 4)]⟩:zaa)=y}).1
def b295_0:zae:=(⟨_,by first|(simp only[nf];exact rfl)|rfl⟩:{y//(q [r [v 9 .lss 8 7],k 9 .skip (.exit 0),.block 1 (q [r [e 10 1 6 8,l 11 10,m 5 11],
 r [m 12 3,m 13 5,v 14 .add 12 13,m 3 14]]),r [u 15 .add 8 1,m 8 15]])=y}).1
def k295:zaa:=(⟨_,by first|(simp only[nf];exact rfl)|rfl⟩:{y//(⟨17,(q [r [M 2 (n 0)],r [M 3 (n 0)],q [r [m 6 0,L 7 6,M 8 (n 0)],.block 0
 (.loop b295_0)],r [m 16 3,m 2 16],.ret]),[(.t 2)]⟩:zaa)=y}).1
def k307:zaa:=(⟨_,by first|(simp only[nf];exact rfl)|rfl⟩:{y//(⟨5,(q [r [M 2 (n 0)],r [m 3 0,L 4 3,m 2 4],.ret]),[(.t 2)]⟩:zaa)=y}).1
def k308:zaa:=(⟨_,by first|(simp only[nf];exact rfl)|rfl⟩:{y//(⟨13,(q [r [M 2 P],r [m 6 0,o 7 (.mki 345 (t 6)),C 8 142 [(t 7)],o 9 (.tas 321
 (.pointer none) true (t 8)),m 5 9,x 10 5 0,x 11 5 1,m 3 10,m 4 11],r [m 12 3,m 2 12],.ret]),[(.t 2)]⟩:zaa)=y}).1
def k311:zaa:=(⟨_,by first|(simp only[nf];exact rfl)|rfl⟩:{y//(⟨20,(q [r [M 4 (n 0)],r [m 7 0,C 8 325 [(t 7)],m 5 8],r [m 9 1,C 10 325 [(t 9)],
 m 6 10],q [r [m 11 5],k 11 (q [q [r [m 12 6],k 12 (q [r [M 4 (n 0)],.ret]) .skip],r [M 4 (n (-1))],.ret]) .skip],q [r [m 13 6],k 13 (q [r [M 4
 (n 1)],.ret]) .skip],q [r [m 14 0,m 15 1,v 16 .lss 14 15],k 16 (q [r [M 4 (n (-1))],.ret]) .skip],q [r [m 17 0,m 18 1,v 19 .gtr 17 18],k 19
 (q [r [M 4 (n 1)],.ret]) .skip],r [M 4 (n 0)],.ret]),[(.t 4)]⟩:zaa)=y}).1
def b312_0:zae:=(⟨_,by first|(simp only[nf];exact rfl)|rfl⟩:{y//(q [r [v 8 .lss 7 6],k 8 .skip (.exit 0),.block 1 (q [r [e 9 1 5 7,l 10 9,m 4 10],
 r [m 11 4,u 12 .lss 11 0,m 13 12,h 14 13 false 4,g 15 13 false (.bin .gtr (t 14) (c (n 11))),p 16 13 15],k 16 (q [r [M 2 F],.ret]) .skip]),
 r [u 17 .add 7 1,m 7 17]])=y}).1
def k312:zaa:=(⟨_,by first|(simp only[nf];exact rfl)|rfl⟩:{y//(⟨21,(q [r [M 2 F],q [r [m 5 0,L 6 5,M 7 (n 0)],.block 0 (.loop b312_0)],r [m 18 0,
 L 19 18,u 20 .leq 19 256,m 2 20],.ret]),[(.t 2)]⟩:zaa)=y}).1
def k325:zaa:=(⟨_,by first|(simp only[nf];exact rfl)|rfl⟩:{y//(⟨6,(q [r [M 2 F],r [m 3 0,m 4 0,v 5 .neq 3 4,m 2 5],.ret]),[(.t 2)]⟩:zaa)=y}).1
def b379_0:zae:=(⟨_,by first|(simp only[nf];exact rfl)|rfl⟩:{y//(q [r [v 9 .lss 8 7],k 9 .skip (.exit 0),.block 1 (q [r [e 10 1 6 8,l 11 10,m 5 11],
 r [m 12 5,m 13 3,v 14 .neq 12 13],k 14 (q [r [m 15 5,m 2 15],.ret]) .skip]),r [u 16 .add 8 1,m 8 16]])=y}).1
def k379:zaa:=(⟨_,by first|(simp only[nf];exact rfl)|rfl⟩:{y//(⟨18,(q [r [M 2 (n 0)],r [M 3 (n 0)],q [r [m 6 0,L 7 6,M 8 (n 0)],.block 0
 (.loop b379_0)],r [m 17 3,m 2 17],.ret]),[(.t 2)]⟩:zaa)=y}).1
def k382:zaa:=(⟨_,by first|(simp only[nf];exact rfl)|rfl⟩:{y//(⟨40,(q [r [M 6 F],r [m 7 0,m 8 1,e 9 1 7 8,l 10 9,o 11 (.nck (t 10)),f 12 0 11,
 l 13 12,m 14 0,m 15 2,e 16 1 14 15,l 17 16,o 18 (.nck (t 17)),f 19 0 18,l 20 19,m 22 0,m 23 1,e 24 1 22 23,l 25 24,o 26 (.nck (t 25)),f 27 1 26,
 l 28 27,m 29 0,m 30 2,e 31 1 29 30,l 32 31,o 33 (.nck (t 32)),f 34 1 33,l 35 34,C 21 311 [(t 13),(t 20)],(.chk 25 none (.ld (t 24))),(.chk 28 none
 (.ld (t 27))),(.chk 32 none (.ld (t 31))),(.chk 35 none (.ld (t 34))),C 36 311 [(t 28),(t 35)],o 37 (.bsl 3 2 [(.int .i64 0),(.int .i64 0)] [(0,(1,
 (t 21))),(1,(1,(t 36)))]),C 38 379 [(t 37)],u 39 .lss 38 0,m 6 39],.ret]),[(.t 6)]⟩:zaa)=y}).1
def k383:zaa:=(⟨_,by first|(simp only[nf];exact rfl)|rfl⟩:{y//(⟨25,(q [r [M 2 .nilIface],r [m 5 0,o 6 (.nck (t 5)),l 7 6,L 8 7,u 9 .sub 8 1,m 3 9],
 r [m 10 0,o 11 (.nck (t 10)),l 12 11,m 13 3,e 14 1 12 13,l 15 14,m 4 15],r [m 16 0,m 17 0,o 18 (.nck (t 17)),l 19 18,m 20 3,o 21 (.slc 321 1
 (t 19) none (some (t 20))),o 22 (.nck (t 16)),O (.st (t 22) (t 21))],r [m 23 4,o 24 (.mki 321 (t 23)),m 2 24],.ret]),[(.t 2)]⟩:zaa)=y}).1
def k384:zaa:=(⟨_,by first|(simp only[nf];exact rfl)|rfl⟩:{y//(⟨20,(q [r [m 7 1,o 8 (.tas 321 (.pointer none) true (t 7)),m 6 8,x 9 6 0,x 10 6 1,
 m 4 9,m 5 10],r [m 11 5],k 11 (r [m 12 0,m 13 0,o 14 (.nck (t 13)),l 15 14,m 16 4,o 17 (.bsl 321 1 [(.pointer none)] [(0,(1,(t 16)))]),o 18
 (.app 321 1 8 (t 15) (t 17)),o 19 (.nck (t 12)),O (.st (t 19) (t 18))]) .skip]),[]⟩:zaa)=y}).1
def k385:zaa:=(⟨_,by first|(simp only[nf];exact rfl)|rfl⟩:{y//(⟨20,(r [m 6 0,m 7 1,m 8 0,m 9 2,m 10 0,m 11 2,e 12 1 10 11,l 13 12,m 14 0,m 15 1,
 e 16 1 14 15,l 17 16,e 18 1 6 7,O (.st (t 18) (t 13)),e 19 1 8 9,O (.st (t 19) (t 17))]),[]⟩:zaa)=y}).1
end
def OK (i:FuncId) (k:zaa):Prop:=zbk Go.Proofs.Tryz.prog i=true∧∃fn,Go.Proofs.Tryz.prog.funcs[i]?=some fn∧zfx Go.Proofs.Tryz.prog fn=some k
theorem c3:OK 3 k3:=⟨by kernel_rfl,Tryz.f3,Tryz.func3,by kernel_rfl⟩
theorem c4:OK 4 k4:=⟨by kernel_rfl,Tryz.f4,Tryz.func4,by kernel_rfl⟩
theorem c5:OK 5 k5:=⟨by kernel_rfl,Tryz.f5,Tryz.func5,by kernel_rfl⟩
theorem c6:OK 6 k6:=⟨by kernel_rfl,Tryz.f6,Tryz.func6,by kernel_rfl⟩
theorem c7:OK 7 k7:=⟨by kernel_rfl,Tryz.f7,Tryz.func7,by kernel_rfl⟩
theorem c8:OK 8 k8:=⟨by kernel_rfl,Tryz.f8,Tryz.func8,by kernel_rfl⟩
theorem c9:OK 9 k9:=⟨by kernel_rfl,Tryz.f9,Tryz.func9,by kernel_rfl⟩
theorem c10:OK 10 k10:=⟨by kernel_rfl,Tryz.f10,Tryz.func10,by kernel_rfl⟩
theorem c11:OK 11 k11:=⟨by kernel_rfl,Tryz.f11,Tryz.func11,by kernel_rfl⟩
theorem c12:OK 12 k12:=⟨by kernel_rfl,Tryz.f12,Tryz.func12,by kernel_rfl⟩
theorem c13:OK 13 k13:=⟨by kernel_rfl,Tryz.f13,Tryz.func13,by kernel_rfl⟩
theorem c14:OK 14 k14:=⟨by kernel_rfl,Tryz.f14,Tryz.func14,by kernel_rfl⟩
theorem c15:OK 15 k15:=⟨by kernel_rfl,Tryz.f15,Tryz.func15,by kernel_rfl⟩
theorem c16:OK 16 k16:=⟨by kernel_rfl,Tryz.f16,Tryz.func16,by kernel_rfl⟩
theorem c17:OK 17 k17:=⟨by kernel_rfl,Tryz.f17,Tryz.func17,by kernel_rfl⟩
theorem c18:OK 18 k18:=⟨by kernel_rfl,Tryz.f18,Tryz.func18,by kernel_rfl⟩
theorem c19:OK 19 k19:=⟨by kernel_rfl,Tryz.f19,Tryz.func19,by kernel_rfl⟩
theorem c20:OK 20 k20:=⟨by kernel_rfl,Tryz.f20,Tryz.func20,by kernel_rfl⟩
theorem c21:OK 21 k21:=⟨by kernel_rfl,Tryz.f21,Tryz.func21,by kernel_rfl⟩
theorem c22:OK 22 k22:=⟨by kernel_rfl,Tryz.f22,Tryz.func22,by kernel_rfl⟩
theorem c23:OK 23 k23:=⟨by kernel_rfl,Tryz.f23,Tryz.func23,by kernel_rfl⟩
theorem c24:OK 24 k24:=⟨by kernel_rfl,Tryz.f24,Tryz.func24,by kernel_rfl⟩
theorem c25:OK 25 k25:=⟨by kernel_rfl,Tryz.f25,Tryz.func25,by kernel_rfl⟩
theorem c26:OK 26 k26:=⟨by kernel_rfl,Tryz.f26,Tryz.func26,by kernel_rfl⟩
theorem c27:OK 27 k27:=⟨by kernel_rfl,Tryz.f27,Tryz.func27,by kernel_rfl⟩
theorem c28:OK 28 k28:=⟨by kernel_rfl,Tryz.f28,Tryz.func28,by kernel_rfl⟩
theorem c29:OK 29 k29:=⟨by kernel_rfl,Tryz.f29,Tryz.func29,by kernel_rfl⟩
theorem c30:OK 30 k30:=⟨by kernel_rfl,Tryz.f30,Tryz.func30,by kernel_rfl⟩
theorem c31:OK 31 k31:=⟨by kernel_rfl,Tryz.f31,Tryz.func31,by kernel_rfl⟩
theorem c32:OK 32 k32:=⟨by kernel_rfl,Tryz.f32,Tryz.func32,by kernel_rfl⟩
theorem c33:OK 33 k33:=⟨by kernel_rfl,Tryz.f33,Tryz.func33,by kernel_rfl⟩
theorem c34:OK 34 k34:=⟨by kernel_rfl,Tryz.f34,Tryz.func34,by kernel_rfl⟩
theorem c35:OK 35 k35:=⟨by kernel_rfl,Tryz.f35,Tryz.func35,by kernel_rfl⟩
theorem c36:OK 36 k36:=⟨by kernel_rfl,Tryz.f36,Tryz.func36,by kernel_rfl⟩
theorem c39:OK 39 k39:=⟨by kernel_rfl,Tryz.f39,Tryz.func39,by kernel_rfl⟩
theorem c40:OK 40 k40:=⟨by kernel_rfl,Tryz.f40,Tryz.func40,by kernel_rfl⟩
theorem c41:OK 41 k41:=⟨by kernel_rfl,Tryz.f41,Tryz.func41,by kernel_rfl⟩
theorem c42:OK 42 k42:=⟨by kernel_rfl,Tryz.f42,Tryz.func42,by kernel_rfl⟩
theorem c46:OK 46 k46:=⟨by kernel_rfl,Tryz.f46,Tryz.func46,by kernel_rfl⟩
theorem c47:OK 47 k47:=⟨by kernel_rfl,Tryz.f47,Tryz.func47,by kernel_rfl⟩
theorem c48:OK 48 k48:=⟨by kernel_rfl,Tryz.f48,Tryz.func48,by kernel_rfl⟩
theorem c49:OK 49 k49:=⟨by kernel_rfl,Tryz.f49,Tryz.func49,by kernel_rfl⟩
theorem c50:OK 50 k50:=⟨by kernel_rfl,Tryz.f50,Tryz.func50,by kernel_rfl⟩
theorem c52:OK 52 k52:=⟨by kernel_rfl,Tryz.f52,Tryz.func52,by kernel_rfl⟩
theorem c53:OK 53 k53:=⟨by kernel_rfl,Tryz.f53,Tryz.func53,by kernel_rfl⟩
theorem c54:OK 54 k54:=⟨by kernel_rfl,Tryz.f54,Tryz.func54,by kernel_rfl⟩
theorem c55:OK 55 k55:=⟨by kernel_rfl,Tryz.f55,Tryz.func55,by kernel_rfl⟩
theorem c58:OK 58 k58:=⟨by kernel_rfl,Tryz.f58,Tryz.func58,by kernel_rfl⟩
theorem c59:OK 59 k59:=⟨by kernel_rfl,Tryz.f59,Tryz.func59,by kernel_rfl⟩
theorem c63:OK 63 k63:=⟨by kernel_rfl,Tryz.f63,Tryz.func63,by kernel_rfl⟩
theorem c64:OK 64 k64:=⟨by kernel_rfl,Tryz.f64,Tryz.func64,by kernel_rfl⟩
theorem c65:OK 65 k65:=⟨by kernel_rfl,Tryz.f65,Tryz.func65,by kernel_rfl⟩
theorem c69:OK 69 k69:=⟨by kernel_rfl,Tryz.f69,Tryz.func69,by kernel_rfl⟩
theorem c70:OK 70 k70:=⟨by kernel_rfl,Tryz.f70,Tryz.func70,by kernel_rfl⟩
theorem c71:OK 71 k71:=⟨by kernel_rfl,Tryz.f71,Tryz.func71,by kernel_rfl⟩
theorem c72:OK 72 k72:=⟨by kernel_rfl,Tryz.f72,Tryz.func72,by kernel_rfl⟩
theorem c73:OK 73 k73:=⟨by kernel_rfl,Tryz.f73,Tryz.func73,by kernel_rfl⟩
theorem c74:OK 74 k74:=⟨by kernel_rfl,Tryz.f74,Tryz.func74,by kernel_rfl⟩
theorem c75:OK 75 k75:=⟨by kernel_rfl,Tryz.f75,Tryz.func75,by kernel_rfl⟩
theorem c80:OK 80 k80:=⟨by kernel_rfl,Tryz.f80,Tryz.func80,by kernel_rfl⟩
theorem c82:OK 82 k82:=⟨by kernel_rfl,Tryz.f82,Tryz.func82,by kernel_rfl⟩
theorem c83:OK 83 k83:=⟨by kernel_rfl,Tryz.f83,Tryz.func83,by kernel_rfl⟩
theorem c84:OK 84 k84:=⟨by kernel_rfl,Tryz.f84,Tryz.func84,by kernel_rfl⟩
theorem c86:OK 86 k86:=⟨by kernel_rfl,Tryz.f86,Tryz.func86,by kernel_rfl⟩
theorem c87:OK 87 k87:=⟨by kernel_rfl,Tryz.f87,Tryz.func87,by kernel_rfl⟩
theorem c88:OK 88 k88:=⟨by kernel_rfl,Tryz.f88,Tryz.func88,by kernel_rfl⟩
theorem c89:OK 89 k89:=⟨by kernel_rfl,Tryz.f89,Tryz.func89,by kernel_rfl⟩
theorem c90:OK 90 k90:=⟨by kernel_rfl,Tryz.f90,Tryz.func90,by kernel_rfl⟩
theorem c91:OK 91 k91:=⟨by kernel_rfl,Tryz.f91,Tryz.func91,by kernel_rfl⟩
theorem c92:OK 92 k92:=⟨by kernel_rfl,Tryz.f92,Tryz.func92,by kernel_rfl⟩
theorem c93:OK 93 k93:=⟨by kernel_rfl,Tryz.f93,Tryz.func93,by kernel_rfl⟩
theorem c94:OK 94 k94:=⟨by kernel_rfl,Tryz.f94,Tryz.func94,by kernel_rfl⟩
theorem c95:OK 95 k95:=⟨by kernel_rfl,Tryz.f95,Tryz.func95,by kernel_rfl⟩
theorem c98:OK 98 k98:=⟨by kernel_rfl,Tryz.f98,Tryz.func98,by kernel_rfl⟩
theorem c99:OK 99 k99:=⟨by kernel_rfl,Tryz.f99,Tryz.func99,by kernel_rfl⟩
theorem c100:OK 100 k100:=⟨by kernel_rfl,Tryz.f100,Tryz.func100,by kernel_rfl⟩
theorem c101:OK 101 k101:=⟨by kernel_rfl,Tryz.f101,Tryz.func101,by kernel_rfl⟩
theorem c102:OK 102 k102:=⟨by kernel_rfl,Tryz.f102,Tryz.func102,by kernel_rfl⟩
theorem c104:OK 104 k104:=⟨by kernel_rfl,Tryz.f104,Tryz.func104,by kernel_rfl⟩
theorem c105:OK 105 k105:=⟨by kernel_rfl,Tryz.f105,Tryz.func105,by kernel_rfl⟩
theorem c114:OK 114 k114:=⟨by kernel_rfl,Tryz.f114,Tryz.func114,by kernel_rfl⟩
theorem c118:OK 118 k118:=⟨by kernel_rfl,Tryz.f118,Tryz.func118,by kernel_rfl⟩
theorem c119:OK 119 k119:=⟨by kernel_rfl,Tryz.f119,Tryz.func119,by kernel_rfl⟩
theorem c120:OK 120 k120:=⟨by kernel_rfl,Tryz.f120,Tryz.func120,by kernel_rfl⟩
theorem c121:OK 121 k121:=⟨by kernel_rfl,Tryz.f121,Tryz.func121,by kernel_rfl⟩
theorem c122:OK 122 k122:=⟨by kernel_rfl,Tryz.f122,Tryz.func122,by kernel_rfl⟩
theorem c123:OK 123 k123:=⟨by kernel_rfl,Tryz.f123,Tryz.func123,by kernel_rfl⟩
theorem c124:OK 124 k124:=⟨by kernel_rfl,Tryz.f124,Tryz.func124,by kernel_rfl⟩
theorem c125:OK 125 k125:=⟨by kernel_rfl,Tryz.f125,Tryz.func125,by kernel_rfl⟩
theorem c126:OK 126 k126:=⟨by kernel_rfl,Tryz.f126,Tryz.func126,by kernel_rfl⟩
theorem c127:OK 127 k127:=⟨by kernel_rfl,Tryz.f127,Tryz.func127,by kernel_rfl⟩
theorem c128:OK 128 k128:=⟨by kernel_rfl,Tryz.f128,Tryz.func128,by kernel_rfl⟩
theorem c129:OK 129 k129:=⟨by kernel_rfl,Tryz.f129,Tryz.func129,by kernel_rfl⟩
theorem c130:OK 130 k130:=⟨by kernel_rfl,Tryz.f130,Tryz.func130,by kernel_rfl⟩
theorem c131:OK 131 k131:=⟨by kernel_rfl,Tryz.f131,Tryz.func131,by kernel_rfl⟩
theorem c132:OK 132 k132:=⟨by kernel_rfl,Tryz.f132,Tryz.func132,by kernel_rfl⟩
theorem c133:OK 133 k133:=⟨by kernel_rfl,Tryz.f133,Tryz.func133,by kernel_rfl⟩
theorem c134:OK 134 k134:=⟨by kernel_rfl,Tryz.f134,Tryz.func134,by kernel_rfl⟩
theorem c137:OK 137 k137:=⟨by kernel_rfl,Tryz.f137,Tryz.func137,by kernel_rfl⟩
theorem c140:OK 140 k140:=⟨by kernel_rfl,Tryz.f140,Tryz.func140,by kernel_rfl⟩
theorem c142:OK 142 k142:=⟨by kernel_rfl,Tryz.f142,Tryz.func142,by kernel_rfl⟩
theorem c143:OK 143 k143:=⟨by kernel_rfl,Tryz.f143,Tryz.func143,by kernel_rfl⟩
theorem c146:OK 146 k146:=⟨by kernel_rfl,Tryz.f146,Tryz.func146,by kernel_rfl⟩
theorem c147:OK 147 k147:=⟨by kernel_rfl,Tryz.f147,Tryz.func147,by kernel_rfl⟩
theorem c148:OK 148 k148:=⟨by kernel_rfl,Tryz.f148,Tryz.func148,by kernel_rfl⟩
theorem c149:OK 149 k149:=⟨by kernel_rfl,Tryz.f149,Tryz.func149,by kernel_rfl⟩
theorem c150:OK 150 k150:=⟨by kernel_rfl,Tryz.f150,Tryz.func150,by kernel_rfl⟩
theorem c151:OK 151 k151:=⟨by kernel_rfl,Tryz.f151,Tryz.func151,by kernel_rfl⟩
theorem c152:OK 152 k152:=⟨by kernel_rfl,Tryz.f152,Tryz.func152,by kernel_rfl⟩
theorem c153:OK 153 k153:=⟨by kernel_rfl,Tryz.f153,Tryz.func153,by kernel_rfl⟩
theorem c155:OK 155 k155:=⟨by kernel_rfl,Tryz.f155,Tryz.func155,by kernel_rfl⟩
theorem c158:OK 158 k158:=⟨by kernel_rfl,Tryz.f158,Tryz.func158,by kernel_rfl⟩
theorem c162:OK 162 k162:=⟨by kernel_rfl,Tryz.f162,Tryz.func162,by kernel_rfl⟩
theorem c163:OK 163 k163:=⟨by kernel_rfl,Tryz.f163,Tryz.func163,by kernel_rfl⟩
theorem c164:OK 164 k164:=⟨by kernel_rfl,Tryz.f164,Tryz.func164,by kernel_rfl⟩
theorem c165:OK 165 k165:=⟨by kernel_rfl,Tryz.f165,Tryz.func165,by kernel_rfl⟩
theorem c166:OK 166 k166:=⟨by kernel_rfl,Tryz.f166,Tryz.func166,by kernel_rfl⟩
theorem c167:OK 167 k167:=⟨by kernel_rfl,Tryz.f167,Tryz.func167,by kernel_rfl⟩
theorem c168:OK 168 k168:=⟨by kernel_rfl,Tryz.f168,Tryz.func168,by kernel_rfl⟩
theorem c169:OK 169 k169:=⟨by kernel_rfl,Tryz.f169,Tryz.func169,by kernel_rfl⟩
theorem c170:OK 170 k170:=⟨by kernel_rfl,Tryz.f170,Tryz.func170,by kernel_rfl⟩
theorem c171:OK 171 k171:=⟨by kernel_rfl,Tryz.f171,Tryz.func171,by kernel_rfl⟩
theorem c172:OK 172 k172:=⟨by kernel_rfl,Tryz.f172,Tryz.func172,by kernel_rfl⟩
theorem c173:OK 173 k173:=⟨by kernel_rfl,Tryz.f173,Tryz.func173,by kernel_rfl⟩
theorem c174:OK 174 k174:=⟨by kernel_rfl,Tryz.f174,Tryz.func174,by kernel_rfl⟩
theorem c175:OK 175 k175:=⟨by kernel_rfl,Tryz.f175,Tryz.func175,by kernel_rfl⟩
theorem c176:OK 176 k176:=⟨by kernel_rfl,Tryz.f176,Tryz.func176,by kernel_rfl⟩
theorem c177:OK 177 k177:=⟨by kernel_rfl,Tryz.f177,Tryz.func177,by kernel_rfl⟩
theorem c178:OK 178 k178:=⟨by kernel_rfl,Tryz.f178,Tryz.func178,by kernel_rfl⟩
theorem c181:OK 181 k181:=⟨by kernel_rfl,Tryz.f181,Tryz.func181,by kernel_rfl⟩
theorem c182:OK 182 k182:=⟨by kernel_rfl,Tryz.f182,Tryz.func182,by kernel_rfl⟩
theorem c183:OK 183 k183:=⟨by kernel_rfl,Tryz.f183,Tryz.func183,by kernel_rfl⟩
theorem c184:OK 184 k184:=⟨by kernel_rfl,Tryz.f184,Tryz.func184,by kernel_rfl⟩
theorem c185:OK 185 k185:=⟨by kernel_rfl,Tryz.f185,Tryz.func185,by kernel_rfl⟩
theorem c186:OK 186 k186:=⟨by kernel_rfl,Tryz.f186,Tryz.func186,by kernel_rfl⟩
theorem c187:OK 187 k187:=⟨by kernel_rfl,Tryz.f187,Tryz.func187,by kernel_rfl⟩
theorem c188:OK 188 k188:=⟨by kernel_rfl,Tryz.f188,Tryz.func188,by kernel_rfl⟩
theorem c189:OK 189 k189:=⟨by kernel_rfl,Tryz.f189,Tryz.func189,by kernel_rfl⟩
theorem c191:OK 191 k191:=⟨by kernel_rfl,Tryz.f191,Tryz.func191,by kernel_rfl⟩
theorem c192:OK 192 k192:=⟨by kernel_rfl,Tryz.f192,Tryz.func192,by kernel_rfl⟩
theorem c193:OK 193 k193:=⟨by kernel_rfl,Tryz.f193,Tryz.func193,by kernel_rfl⟩
theorem c194:OK 194 k194:=⟨by kernel_rfl,Tryz.f194,Tryz.func194,by kernel_rfl⟩
theorem c195:OK 195 k195:=⟨by kernel_rfl,Tryz.f195,Tryz.func195,by kernel_rfl⟩
theorem c196:OK 196 k196:=⟨by kernel_rfl,Tryz.f196,Tryz.func196,by kernel_rfl⟩
theorem c198:OK 198 k198:=⟨by kernel_rfl,Tryz.f198,Tryz.func198,by kernel_rfl⟩
theorem c201:OK 201 k201:=⟨by kernel_rfl,Tryz.f201,Tryz.func201,by kernel_rfl⟩
theorem c205:OK 205 k205:=⟨by kernel_rfl,Tryz.f205,Tryz.func205,by kernel_rfl⟩
theorem c206:OK 206 k206:=⟨by kernel_rfl,Tryz.f206,Tryz.func206,by kernel_rfl⟩
theorem c207:OK 207 k207:=⟨by kernel_rfl,Tryz.f207,Tryz.func207,by kernel_rfl⟩
theorem c209:OK 209 k209:=⟨by kernel_rfl,Tryz.f209,Tryz.func209,by kernel_rfl⟩
theorem c210:OK 210 k210:=⟨by kernel_rfl,Tryz.f210,Tryz.func210,by kernel_rfl⟩
theorem c211:OK 211 k211:=⟨by kernel_rfl,Tryz.f211,Tryz.func211,by kernel_rfl⟩
theorem c212:OK 212 k212:=⟨by kernel_rfl,Tryz.f212,Tryz.func212,by kernel_rfl⟩
theorem c215:OK 215 k215:=⟨by kernel_rfl,Tryz.f215,Tryz.func215,by kernel_rfl⟩
theorem c218:OK 218 k218:=⟨by kernel_rfl,Tryz.f218,Tryz.func218,by kernel_rfl⟩
theorem c219:OK 219 k219:=⟨by kernel_rfl,Tryz.f219,Tryz.func219,by kernel_rfl⟩
theorem c220:OK 220 k220:=⟨by kernel_rfl,Tryz.f220,Tryz.func220,by kernel_rfl⟩
theorem c227:OK 227 k227:=⟨by kernel_rfl,Tryz.f227,Tryz.func227,by kernel_rfl⟩
theorem c228:OK 228 k228:=⟨by kernel_rfl,Tryz.f228,Tryz.func228,by kernel_rfl⟩
theorem c230:OK 230 k230:=⟨by kernel_rfl,Tryz.f230,Tryz.func230,by kernel_rfl⟩
theorem c237:OK 237 k237:=⟨by kernel_rfl,Tryz.f237,Tryz.func237,by kernel_rfl⟩
theorem c239:OK 239 k239:=⟨by kernel_rfl,Tryz.f239,Tryz.func239,by kernel_rfl⟩
theorem c240:OK 240 k240:=⟨by kernel_rfl,Tryz.f240,Tryz.func240,by kernel_rfl⟩
theorem c241:OK 241 k241:=⟨by kernel_rfl,Tryz.f241,Tryz.func241,by kernel_rfl⟩
theorem c242:OK 242 k242:=⟨by kernel_rfl,Tryz.f242,Tryz.func242,by kernel_rfl⟩
theorem c243:OK 243 k243:=⟨by kernel_rfl,Tryz.f243,Tryz.func243,by kernel_rfl⟩
theorem c247:OK 247 k247:=⟨by kernel_rfl,Tryz.f247,Tryz.func247,by kernel_rfl⟩
theorem c257:OK 257 k257:=⟨by kernel_rfl,Tryz.f257,Tryz.func257,by kernel_rfl⟩
theorem c262:OK 262 k262:=⟨by kernel_rfl,Tryz.f262,Tryz.func262,by kernel_rfl⟩
theorem c263:OK 263 k263:=⟨by kernel_rfl,Tryz.f263,Tryz.func263,by kernel_rfl⟩
theorem c264:OK 264 k264:=⟨by kernel_rfl,Tryz.f264,Tryz.func264,by kernel_rfl⟩
theorem c265:OK 265 k265:=⟨by kernel_rfl,Tryz.f265,Tryz.func265,by kernel_rfl⟩
theorem c282:OK 282 k282:=⟨by kernel_rfl,Tryz.f282,Tryz.func282,by kernel_rfl⟩
theorem c283:OK 283 k283:=⟨by kernel_rfl,Tryz.f283,Tryz.func283,by kernel_rfl⟩
theorem c284:OK 284 k284:=⟨by kernel_rfl,Tryz.f284,Tryz.func284,by kernel_rfl⟩
theorem c285:OK 285 k285:=⟨by kernel_rfl,Tryz.f285,Tryz.func285,by kernel_rfl⟩
theorem c287:OK 287 k287:=⟨by kernel_rfl,Tryz.f287,Tryz.func287,by kernel_rfl⟩
theorem c288:OK 288 k288:=⟨by kernel_rfl,Tryz.f288,Tryz.func288,by kernel_rfl⟩
theorem c289:OK 289 k289:=⟨by kernel_rfl,Tryz.f289,Tryz.func289,by kernel_rfl⟩
theorem c290:OK 290 k290:=⟨by kernel_rfl,Tryz.f290,Tryz.func290,by kernel_rfl⟩
theorem c295:OK 295 k295:=⟨by kernel_rfl,Tryz.f295,Tryz.func295,by kernel_rfl⟩
theorem c307:OK 307 k307:=⟨by kernel_rfl,Tryz.f307,Tryz.func307,by kernel_rfl⟩
theorem c308:OK 308 k308:=⟨by kernel_rfl,Tryz.f308,Tryz.func308,by kernel_rfl⟩
theorem c311:OK 311 k311:=⟨by kernel_rfl,Tryz.f311,Tryz.func311,by kernel_rfl⟩
theorem c312:OK 312 k312:=⟨by kernel_rfl,Tryz.f312,Tryz.func312,by kernel_rfl⟩
theorem c325:OK 325 k325:=⟨by kernel_rfl,Tryz.f325,Tryz.func325,by kernel_rfl⟩
theorem c379:OK 379 k379:=⟨by kernel_rfl,Tryz.f379,Tryz.func379,by kernel_rfl⟩
theorem c382:OK 382 k382:=⟨by kernel_rfl,Tryz.f382,Tryz.func382,by kernel_rfl⟩
theorem c383:OK 383 k383:=⟨by kernel_rfl,Tryz.f383,Tryz.func383,by kernel_rfl⟩
theorem c384:OK 384 k384:=⟨by kernel_rfl,Tryz.f384,Tryz.func384,by kernel_rfl⟩
theorem c385:OK 385 k385:=⟨by kernel_rfl,Tryz.f385,Tryz.func385,by kernel_rfl⟩
def fnc0:FuncId→Option zaa
 |3=>some k3
 |4=>some k4
 |5=>some k5
 |6=>some k6
 |7=>some k7
 |8=>some k8
 |9=>some k9
 |10=>some k10
 |11=>some k11
 |12=>some k12
 |13=>some k13
 |14=>some k14
 |15=>some k15
 |16=>some k16
 |17=>some k17
 |18=>some k18
 |19=>some k19
 |20=>some k20
 |21=>some k21
 |22=>some k22
 |23=>some k23
 |24=>some k24
 |25=>some k25
 |26=>some k26
 |27=>some k27
 |28=>some k28
 |29=>some k29
 |30=>some k30
 |31=>some k31
 |32=>some k32
 |33=>some k33
 |34=>some k34
 |_=>none
def fnc1:FuncId→Option zaa
 |35=>some k35
 |36=>some k36
 |39=>some k39
 |40=>some k40
 |41=>some k41
 |42=>some k42
 |46=>some k46
 |47=>some k47
 |48=>some k48
 |49=>some k49
 |50=>some k50
 |52=>some k52
 |53=>some k53
 |54=>some k54
 |55=>some k55
 |58=>some k58
 |59=>some k59
 |63=>some k63
 |64=>some k64
 |65=>some k65
 |69=>some k69
 |70=>some k70
 |71=>some k71
 |72=>some k72
 |73=>some k73
 |74=>some k74
 |75=>some k75
 |80=>some k80
 |82=>some k82
 |83=>some k83
 |84=>some k84
 |86=>some k86
 |_=>none
def fnc2:FuncId→Option zaa
 |87=>some k87
 |88=>some k88
 |89=>some k89
 |90=>some k90
 |91=>some k91
 |92=>some k92
 |93=>some k93
 |94=>some k94
 |95=>some k95
 |98=>some k98
 |99=>some k99
 |100=>some k100
 |101=>some k101
 |102=>some k102
 |104=>some k104
 |105=>some k105
 |114=>some k114
 |118=>some k118
 |119=>some k119
 |120=>some k120
 |121=>some k121
 |122=>some k122
 |123=>some k123
 |124=>some k124
 |125=>some k125
 |126=>some k126
 |127=>some k127
 |128=>some k128
 |129=>some k129
 |130=>some k130
 |131=>some k131
 |132=>some k132
 |_=>none
def fnc3:FuncId→Option zaa
 |133=>some k133
 |134=>some k134
 |137=>some k137
 |140=>some k140
 |142=>some k142
 |143=>some k143
 |146=>some k146
 |147=>some k147
 |148=>some k148
 |149=>some k149
 |150=>some k150
 |151=>some k151
 |152=>some k152
 |153=>some k153
 |155=>some k155
 |158=>some k158
 |162=>some k162
 |163=>some k163
 |164=>some k164
 |165=>some k165
 |166=>some k166
 |167=>some k167
 |168=>some k168
 |169=>some k169
 |170=>some k170
 |171=>some k171
 |172=>some k172
 |173=>some k173
 |174=>some k174
 |175=>some k175
 |176=>some k176
 |177=>some k177
 |_=>none
def fnc4:FuncId→Option zaa
 |178=>some k178
 |181=>some k181
 |182=>some k182
 |183=>some k183
 |184=>some k184
 |185=>some k185
 |186=>some k186
 |187=>some k187
 |188=>some k188
 |189=>some k189
 |191=>some k191
 |192=>some k192
 |193=>some k193
 |194=>some k194
 |195=>some k195
 |196=>some k196
 |198=>some k198
 |201=>some k201
 |205=>some k205
 |206=>some k206
 |207=>some k207
 |209=>some k209
 |210=>some k210
 |211=>some k211
 |212=>some k212
 |215=>some k215
 |218=>some k218
 |219=>some k219
 |220=>some k220
 |227=>some k227
 |228=>some k228
 |230=>some k230
 |_=>none
def fnc5:FuncId→Option zaa
 |237=>some k237
 |239=>some k239
 |240=>some k240
 |241=>some k241
 |242=>some k242
 |243=>some k243
 |247=>some k247
 |257=>some k257
 |262=>some k262
 |263=>some k263
 |264=>some k264
 |265=>some k265
 |282=>some k282
 |283=>some k283
 |284=>some k284
 |285=>some k285
 |287=>some k287
 |288=>some k288
 |289=>some k289
 |290=>some k290
 |295=>some k295
 |307=>some k307
 |308=>some k308
 |311=>some k311
 |312=>some k312
 |325=>some k325
 |379=>some k379
 |382=>some k382
 |383=>some k383
 |384=>some k384
 |385=>some k385
 |_=>none
def F (f:FuncId):Option zaa:=
 if f< 35 then fnc0 f else
 if f< 87 then fnc1 f else
 if f< 133 then fnc2 f else
 if f< 178 then fnc3 f else
 if f< 237 then fnc4 f else
 fnc5 f
def M:TypeId→String→Option (FuncId×Recv)
 |345, "Len"=>some (307,.ld)
 |345, "Less"=>some (382,.ld)
 |345, "Swap"=>some (385,.ld)
 |345, "Pop"=>some (383,.as)
 |345, "Push"=>some (384,.as)
 |142, "Len"=>some (141,.ld)
 |142, "Less"=>some (375,.ld)
 |142, "Swap"=>some (378,.ld)
 |142, "Pop"=>some (376,.as)
 |142, "Push"=>some (377,.as)
 |_,_=>none
theorem fnc0_ok:∀f k,fnc0 f=some k→OK f k:=by
 intro f k h
 unfold fnc0 at h
 split at h
 ·cases h;exact c3
 ·cases h;exact c4
 ·cases h;exact c5
 ·cases h;exact c6
 ·cases h;exact c7
 ·cases h;exact c8
 ·cases h;exact c9
 ·cases h;exact c10
 ·cases h;exact c11
 ·cases h;exact c12
 ·cases h;exact c13
 ·cases h;exact c14
 ·cases h;exact c15
 ·cases h;exact c16
 ·cases h;exact c17
 ·cases h;exact c18
 ·cases h;exact c19
 ·cases h;exact c20
 ·cases h;exact c21
 ·cases h;exact c22
 ·cases h;exact c23
 ·cases h;exact c24
 ·cases h;exact c25
 ·cases h;exact c26
 ·cases h;exact c27
 ·cases h;exact c28
 ·cases h;exact c29
 ·cases h;exact c30
 ·cases h;exact c31
 ·cases h;exact c32
 ·cases h;exact c33
 ·cases h;exact c34
 ·cases h
theorem fnc1_ok:∀f k,fnc1 f=some k→OK f k:=by
 intro f k h
 unfold fnc1 at h
 split at h
 ·cases h;exact c35
 ·cases h;exact c36
 ·cases h;exact c39
 ·cases h;exact c40
 ·cases h;exact c41
 ·cases h;exact c42
 ·cases h;exact c46
 ·cases h;exact c47
 ·cases h;exact c48
 ·cases h;exact c49
 ·cases h;exact c50
 ·cases h;exact c52
 ·cases h;exact c53
 ·cases h;exact c54
 ·cases h;exact c55
 ·cases h;exact c58
 ·cases h;exact c59
 ·cases h;exact c63
 ·cases h;exact c64
 ·cases h;exact c65
 ·cases h;exact c69
 ·cases h;exact c70
 ·cases h;exact c71
 ·cases h;exact c72
 ·cases h;exact c73
 ·cases h;exact c74
 ·cases h;exact c75
 ·cases h;exact c80
 ·cases h;exact c82
 ·cases h;exact c83
 ·cases h;exact c84
 ·cases h;exact c86
 ·cases h
theorem fnc2_ok:∀f k,fnc2 f=some k→OK f k:=by
 intro f k h
 unfold fnc2 at h
 split at h
 ·cases h;exact c87
 ·cases h;exact c88
 ·cases h;exact c89
 ·cases h;exact c90
 ·cases h;exact c91
 ·cases h;exact c92
 ·cases h;exact c93
 ·cases h;exact c94
 ·cases h;exact c95
 ·cases h;exact c98
 ·cases h;exact c99
 ·cases h;exact c100
 ·cases h;exact c101
 ·cases h;exact c102
 ·cases h;exact c104
 ·cases h;exact c105
 ·cases h;exact c114
 ·cases h;exact c118
 ·cases h;exact c119
 ·cases h;exact c120
 ·cases h;exact c121
 ·cases h;exact c122
 ·cases h;exact c123
 ·cases h;exact c124
 ·cases h;exact c125
 ·cases h;exact c126
 ·cases h;exact c127
 ·cases h;exact c128
 ·cases h;exact c129
 ·cases h;exact c130
 ·cases h;exact c131
 ·cases h;exact c132
 ·cases h
theorem fnc3_ok:∀f k,fnc3 f=some k→OK f k:=by
 intro f k h
 unfold fnc3 at h
 split at h
 ·cases h;exact c133
 ·cases h;exact c134
 ·cases h;exact c137
 ·cases h;exact c140
 ·cases h;exact c142
 ·cases h;exact c143
 ·cases h;exact c146
 ·cases h;exact c147
 ·cases h;exact c148
 ·cases h;exact c149
 ·cases h;exact c150
 ·cases h;exact c151
 ·cases h;exact c152
 ·cases h;exact c153
 ·cases h;exact c155
 ·cases h;exact c158
 ·cases h;exact c162
 ·cases h;exact c163
 ·cases h;exact c164
 ·cases h;exact c165
 ·cases h;exact c166
 ·cases h;exact c167
 ·cases h;exact c168
 ·cases h;exact c169
 ·cases h;exact c170
 ·cases h;exact c171
 ·cases h;exact c172
 ·cases h;exact c173
 ·cases h;exact c174
 ·cases h;exact c175
 ·cases h;exact c176
 ·cases h;exact c177
 ·cases h
theorem fnc4_ok:∀f k,fnc4 f=some k→OK f k:=by
 intro f k h
 unfold fnc4 at h
 split at h
 ·cases h;exact c178
 ·cases h;exact c181
 ·cases h;exact c182
 ·cases h;exact c183
 ·cases h;exact c184
 ·cases h;exact c185
 ·cases h;exact c186
 ·cases h;exact c187
 ·cases h;exact c188
 ·cases h;exact c189
 ·cases h;exact c191
 ·cases h;exact c192
 ·cases h;exact c193
 ·cases h;exact c194
 ·cases h;exact c195
 ·cases h;exact c196
 ·cases h;exact c198
 ·cases h;exact c201
 ·cases h;exact c205
 ·cases h;exact c206
 ·cases h;exact c207
 ·cases h;exact c209
 ·cases h;exact c210
 ·cases h;exact c211
 ·cases h;exact c212
 ·cases h;exact c215
 ·cases h;exact c218
 ·cases h;exact c219
 ·cases h;exact c220
 ·cases h;exact c227
 ·cases h;exact c228
 ·cases h;exact c230
 ·cases h
theorem fnc5_ok:∀f k,fnc5 f=some k→OK f k:=by
 intro f k h
 unfold fnc5 at h
 split at h
 ·cases h;exact c237
 ·cases h;exact c239
 ·cases h;exact c240
 ·cases h;exact c241
 ·cases h;exact c242
 ·cases h;exact c243
 ·cases h;exact c247
 ·cases h;exact c257
 ·cases h;exact c262
 ·cases h;exact c263
 ·cases h;exact c264
 ·cases h;exact c265
 ·cases h;exact c282
 ·cases h;exact c283
 ·cases h;exact c284
 ·cases h;exact c285
 ·cases h;exact c287
 ·cases h;exact c288
 ·cases h;exact c289
 ·cases h;exact c290
 ·cases h;exact c295
 ·cases h;exact c307
 ·cases h;exact c308
 ·cases h;exact c311
 ·cases h;exact c312
 ·cases h;exact c325
 ·cases h;exact c379
 ·cases h;exact c382
 ·cases h;exact c383
 ·cases h;exact c384
 ·cases h;exact c385
 ·cases h
theorem zjx:∀f k,F f=some k→zbk Go.Proofs.Tryz.prog f=true∧∃fn,Go.Proofs.Tryz.prog.funcs[f]?=some fn∧zfx Go.Proofs.Tryz.prog fn=some k:=by
 intro f k h
 unfold F at h
 by_cases h0:f<35
 ·rw [if_pos h0] at h;exact fnc0_ok f k h
 rw [if_neg h0] at h
 by_cases h1:f<87
 ·rw [if_pos h1] at h;exact fnc1_ok f k h
 rw [if_neg h1] at h
 by_cases h2:f<133
 ·rw [if_pos h2] at h;exact fnc2_ok f k h
 rw [if_neg h2] at h
 by_cases h3:f<178
 ·rw [if_pos h3] at h;exact fnc3_ok f k h
 rw [if_neg h3] at h
 by_cases h4:f<237
 ·rw [if_pos h4] at h;exact fnc4_ok f k h
 rw [if_neg h4] at h
 exact fnc5_ok f k h
theorem zjy:∀t n f r,M t n=some (f,r)→zdQ Go.Proofs.Tryz.prog t n f r=true:=by
 intro t n f r h
 unfold M at h
 split at h
 ·cases h;kernel_rfl
 ·cases h;kernel_rfl
 ·cases h;kernel_rfl
 ·cases h;kernel_rfl
 ·cases h;kernel_rfl
 ·cases h;kernel_rfl
 ·cases h;kernel_rfl
 ·cases h;kernel_rfl
 ·cases h;kernel_rfl
 ·cases h;kernel_rfl
 ·cases h
end Go.Proofs.YtnbjcbhlbkmhoaaGreat.K
