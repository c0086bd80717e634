/- A part of the proof of PBatchAny, made small by a program of this work (mini.py). Conditions: none. -/
import Derived.Test.YtjgpbhodbgjggaaGreatD6
import Derived.Test.YtjgpbhodbgjggaaGreatD5
import Derived.Test.YtjgpbhodbgjggaaGreatD4
set_option linter.defProp false
set_option linter.unusedVariables false
set_option linter.unusedSimpArgs false
set_option maxRecDepth 100000
set_option maxHeartbeats 8000000
namespace Go.Proofs.YtjgpbhodbgjggaaGreat.K
open Go Go.Proofs
def zbL (sy bi ba:Nat→Nat) (p:Nat):List Value:= [.int .u8 (sy p:Nat),.int .i64 (bi p:Nat),.int .i64 (ba p:Nat)]
def cel3 (P:Nat) (sy bi ba:Nat→Nat):List Value:=(List.range P).flatMap (zbL sy bi ba)
theorem cel3_len (P:Nat) (sy bi ba:Nat→Nat):(cel3 P sy bi ba).length=P*3:=by
 have:=zdq (f:=zbL sy bi ba) (z:=3) (fun _=>rfl) (List.range P)
 simpa [cel3] using this
theorem cel3_get {P:Nat} {sy bi ba:Nat→Nat} {p j:Nat} (hp:p< P) (hj:j< 3):(cel3 P sy bi ba)[p*3+j]? =(zbL sy bi ba p)[j]? :=
 zdr (f:=zbL sy bi ba) (z:=3) (fun _=>rfl) (by simp [hp]) hj
theorem cel3_ext {P:Nat} {sy bi ba:Nat→Nat} {l:List Value} (hl:l.length=P*3) (h:∀p j,p< P→j< 3→l[p*3+j]? =(zbL sy bi ba p)[j]?):l=cel3 P sy bi ba:=by
 apply List.ext_getElem?
 intro k
 rcases Nat.lt_or_ge k (P*3) with hk|hk
 ·obtain ⟨p,j,rfl,hj⟩:∃p j,k=p*3+j∧j< 3:=⟨k / 3,k % 3,by omega,by omega⟩
  rw [h p j (by omega) hj,cel3_get (by omega) hj]
 ·rw [List.getElem?_eq_none (by omega),List.getElem?_eq_none (by rw [cel3_len];omega)]
theorem cel3_set {P:Nat} {sy bi ba sy' bi' ba':Nat→Nat} {p j:Nat} {v:Value} (hp:p< P) (hj:j< 3) (h1:∀q,q< P→q≠p→zbL sy' bi' ba' q=zbL sy bi ba q) (h2:∀i,i< 3→(zbL sy' bi' ba' p)[i]? =if i=j then some v else (zbL sy bi ba p)[i]?):(cel3 P sy bi ba).set (p*3+j) v=cel3 P sy' bi' ba':=by
 apply cel3_ext (by rw [List.length_set,cel3_len])
 intro q i hq hi
 rw [List.getElem?_set]
 by_cases he:p*3+j=q*3+i
 ·have e1:q=p:=by omega
  have e2:i=j:=by omega
  subst e1 e2
  rw [if_pos rfl,if_pos (by rw [cel3_len];omega),h2 i hi,if_pos rfl]
 ·rw [if_neg he,cel3_get hq hi]
  by_cases e1:q=p
  ·subst e1
   rw [h2 i hi,if_neg (by omega)]
  ·rw [h1 q hq e1]
theorem qi64 {a c:Nat} (hc:0< c) (ha:a< 4611686018427387904):zat .quo (.int .i64 (a:Int)) (.int .i64 (c:Int))=some (.int .i64 ((a / c:Nat):Int)):=by
 have h0:¬(c:Int)=0:=by omega
 have:zat .quo (.int .i64 (a:Int)) (.int .i64 (c:Int))=if (c:Int)=0 then none else some (.int .i64 (IntKind.i64.wrap (Int.tdiv (a:Int) c))):=rfl
 have hle:a / c≤a:=Nat.div_le_self _ _
 rw [this,if_neg h0,show Int.tdiv (a:Int) (c:Int)=((a / c:Nat):Int) from rfl]
 obtain ⟨q,hq⟩:∃q,q=a / c:=⟨_,rfl⟩
 rw [←hq] at hle⊢
 rw [wi (by omega) (by omega)]
theorem ri64 {a c:Nat} (hc:0< c) (ha:a< 4611686018427387904):zat .rem (.int .i64 (a:Int)) (.int .i64 (c:Int))=some (.int .i64 ((a % c:Nat):Int)):=by
 have h0:¬(c:Int)=0:=by omega
 have:zat .rem (.int .i64 (a:Int)) (.int .i64 (c:Int))=if (c:Int)=0 then none else some (.int .i64 (Int.tmod (a:Int) c)):=rfl
 have hle:a % c≤a:=Nat.mod_le _ _
 rw [this,if_neg h0,show Int.tmod (a:Int) (c:Int)=((a % c:Nat):Int) from rfl]
def psJ (log P j:Nat):Nat:=j*zfv log % P
def syJ (log:Nat) (sh:List Nat) (j p:Nat):Nat:=(spl log sh j).getD p 0
def syF (log:Nat) (sh:List Nat) (p:Nat):Nat:=(zaH log sh).getD p 0
def biS (log:Nat) (sh:List Nat) (s i p:Nat):Nat:=if syF log sh p< s∨(syF log sh p=s∧p< i) then zbt log sh p else 0
def baS (log:Nat) (sh:List Nat) (s i p:Nat):Nat:=if syF log sh p< s∨(syF log sh p=s∧p< i) then zcK log sh p else 0
def z0 (_:Nat):Nat:=0
theorem zkK {log:Nat} {sh:List Nat} {j p:Nat} (hp:p< 2 ^ log):(spl log sh j)[p]? =some (syJ log sh j p):=by
 unfold syJ
 have hl:p< (spl log sh j).length:=by simp [spl,hp]
 rw [List.getD_eq_getElem?_getD,List.getElem?_eq_getElem hl];rfl
structure RbI (H0:Heap) (a:Option Addr) (c:Nat) (sh:List Nat) (log P:Nat) (e:Fe) (H:Heap):Prop where
 e0:e 0= .slice a sh.length c
 e1:e 1= .int .i64 log
 e5:e 5= .int .i64 P
 e6:e 6= .slice (some ⟨H0.next,0,none⟩) P P
 nx:H.next=H0.next+1
 kp:Kp H0.next H0 H
section
variable {H:Heap} {a:Option Addr} {c:Nat} {sh:List Nat} {log:Nat}
theorem znJ (hs:Nv H a sh) (hf:Fr log sh):Wf S 215 [.slice a sh.length c,.int .i64 log] H fun v H'=>v= .slice (some ⟨H.next,0,none⟩) (2 ^ log) (2 ^ log)∧H'.get H.next= .cells (zdX log sh (2 ^ log)) 282 true∧Kp H.next H H':=by
 have hf':=hf
 obtain ⟨hlo,hhi,hsum,hlen⟩:=hf
 refine w215 rfl rfl _ _ ?_
 have p9:2 ^ log≤2 ^ 9:=Nat.pow_le_pow_right (by omega) (by omega)
 have e9:(2:Nat) ^ 9=512:=by decide
 have p5:2 ^ 5≤2 ^ log:=Nat.pow_le_pow_right (by omega) (by omega)
 have e5:(2:Nat) ^ 5=32:=by decide
 simp [s215]
 refine (zcw H log (by omega)).mono ?_
 rintro v H1 ⟨h1,rfl⟩
 rw [h1]
 have hp2:p2 log=((2 ^ log:Nat):Int):=by unfold p2;exact_mod_cast rfl
 rw [hp2]
 obtain ⟨P,hP⟩:∃P,P=2 ^ log:=⟨_,rfl⟩
 rw [←hP] at p9 p5 hsum⊢
 have c1:(P:Int)≤9223372036854775807:=by omega
 have c2:24*(P:Int)≤281474976710656:=by omega
 have hz:zeros [.int .u8 0,.int .i64 0,.int .i64 0] P=cel3 P (syJ log sh 0) z0 z0:=by
  rw [hP,zgT log sh]
  apply cel3_ext (zci _ _ _)
  intro p j hp hj
  rw [zeM hp hj]
  have:syJ log sh 0 p=0:=by unfold syJ;rw [ziD,List.getD_eq_getElem?_getD,List.getElem?_replicate,if_pos hp];rfl
  simp only [zbL,this,z0,zdC]
  rw [if_neg (by omega)];rfl
 simp [zcB,c1,c2,hz]
 refine l215_1 S (fun d e H'=>∃i,i≤sh.length∧d=sh.length - i∧RbI H a c sh log P e H'∧e 7= .int .i64 ((psJ log P (fsT sh i):Nat):Int)∧e 8= .int .i64 i∧H'.get H.next= .cells (cel3 P (syJ log sh (fsT sh i)) z0 z0) 282 true) sh.length ⟨0,by omega,by omega,⟨by simp,by simp,by simp,by simp,by simp,Kp.push (Nat.le_refl _)⟩,by simp [fsT,psJ],by simp,?_⟩ ?_
 ·have e0:fsT sh 0=0:=rfl
  rw [e0];exact zaf
 rintro d e H' ⟨i,hi,rfl,I,e7,e8,hg⟩
 obtain ⟨q0,q1,q5,q6,nx,kp⟩:=I
 by_cases h3:i< sh.length
 ·have h3':(i:Int)< sh.length:=by omega
  obtain ⟨n,hx⟩:∃n,sh[i]? =some n:=⟨_,List.getElem?_eq_getElem h3⟩
  have hfs:=zdB hx
  have hfl:fsT sh (i+1)≤sh.sum:=zbu _ _
  obtain ⟨b,o,rfl,hcell,hbl⟩:=hs i n hx
  have w1:IntKind.i64.wrap ((i:Int)+1)=(i:Int)+1:=wi (by omega) (by omega)
  simp [s215_1,q0,e8,h3,h3']
  refine l215_3 S (fun d e' H2=>∃m,m≤n∧d=n - m∧RbI H (some ⟨b,o,none⟩) c sh log P e' H2∧e' 7= .int .i64 ((psJ log P (fsT sh i+m):Nat):Int)∧e' 8= .int .i64 i∧e' 9= .int .i64 m∧H2.get H.next= .cells (cel3 P (syJ log sh (fsT sh i+m)) z0 z0) 282 true) n ⟨0,by omega,by omega,⟨by simp [q0],by simp [q1],by simp [q5],by simp [q6],nx,kp⟩,by simp [e7],by simp [e8],by simp,hg⟩ ?_
  rintro d e' H2 ⟨m,hm,rfl,J,r7,r8,r9,hg2⟩
  obtain ⟨j0,j1,j5,j6,jnx,jkp⟩:=J
  have hcell2:kLd H2 (.pointer (some ⟨b,o+i,none⟩))=some (.int .i64 (n:Int)):=(zc9 (jkp.2 b hbl)).trans hcell
  by_cases h4:m< n
  ·have h4':(m:Int)< n:=by omega
   have hat:=zjC sh 0 i n m hx h4
   rw [Nat.zero_add] at hat
   have hj:fsT sh i+m< 2 ^ log:=by omega
   have hstep:=ziF (sh:=sh) hlo hhi hj hat
   obtain ⟨j,hjj⟩:∃j,j=fsT sh i+m:=⟨_,rfl⟩
   have hj1:fsT sh i+(m+1)=j+1:=by omega
   have hjt:(sh.take i).sum+m=j:=hjj.symm
   rw [←hjj] at hstep hj r7 hg2
   obtain ⟨T,hT⟩:∃T,T=zfv log:=⟨_,rfl⟩
   have hT2:T=P / 2+P / 8+3:=by rw [hT,hP];rfl
   unfold psJ at r7
   rw [←hT] at r7
   obtain ⟨Q,hQ⟩:∃Q,Q=j*T % P:=⟨_,rfl⟩
   have hQP:Q< P:=by rw [hQ];exact Nat.mod_lt _ (by omega)
   have hQ1:(j+1)*T % P=(Q+T) % P:=by rw [hQ,Nat.succ_mul,Nat.mod_add_mod]
   rw [←hQ] at r7
   have wm:IntKind.i64.wrap ((m:Int)+1)=(m:Int)+1:=wi (by omega) (by omega)
   have wu:IntKind.u8.wrap (i:Int)=i:=wu8' (by omega) (by omega)
   have d1:zat .quo (.int .i64 (P:Int)) (.int .i64 2)=some (.int .i64 ((P / 2:Nat):Int)):=qi64 (c:=2) (by omega) (by omega)
   have d2:zat .quo (.int .i64 (P:Int)) (.int .i64 8)=some (.int .i64 ((P / 8:Nat):Int)):=qi64 (c:=8) (by omega) (by omega)
   have d3:zat .rem (.int .i64 ((Q+T:Nat):Int)) (.int .i64 (P:Int))=some (.int .i64 (((Q+T) % P:Nat):Int)):=ri64 (by omega) (by omega)
   obtain ⟨A,hA⟩:∃A,A=P / 2:=⟨_,rfl⟩
   obtain ⟨B,hB⟩:∃B,B=P / 8:=⟨_,rfl⟩
   rw [←hA] at d1 hT2
   rw [←hB] at d2 hT2
   have x1:IntKind.i64.wrap ((Q:Int)+A)=(Q:Int)+A:=wi (by omega) (by omega)
   have x2:IntKind.i64.wrap ((Q:Int)+A+B)=(Q:Int)+A+B:=wi (by omega) (by omega)
   have x3:IntKind.i64.wrap ((Q:Int)+A+B+3)=((Q+T:Nat):Int):=by rw [wi (by omega) (by omega)];omega
   obtain ⟨QT,hQT⟩:∃QT,QT=Q+T:=⟨_,rfl⟩
   rw [←hQT] at d3 x3
   obtain ⟨Q2,hQ2⟩:∃Q2,Q2=QT % P:=⟨_,rfl⟩
   rw [←hQ2] at d3
   have hlt3:Q*3< (cel3 P (syJ log sh j) z0 z0).length:=by rw [cel3_len];omega
   have hQP':(Q:Int)< P:=by omega
   have hset:(cel3 P (syJ log sh j) z0 z0).set (Q*3) (.int .u8 (i:Int))=cel3 P (syJ log sh (j+1)) z0 z0:=by
    have hsy:∀q,q< P→syJ log sh (j+1) q=if q=Q then i else syJ log sh j q:=by
     intro q hq
     have g1:=zkK (sh:=sh) (j:=j+1) (p:=q) (log:=log) (by omega)
     rw [←hstep,List.getElem?_set,←hT,←hP,←hQ] at g1
     have hsl:(spl log sh j).length=P:=by simp [spl,hP]
     by_cases he:Q=q
     ·rw [if_pos he,if_pos (by omega)] at g1
      rw [if_pos he.symm];exact (Option.some.inj g1).symm
     ·rw [if_neg he,zkK (by omega)] at g1
      rw [if_neg (fun h=>he h.symm)];exact (Option.some.inj g1).symm
    refine cel3_set (j:=0) hQP (by omega) (fun q hq hne=>?_) (fun k hk=>?_)
    ·simp only [zbL,hsy q hq,if_neg hne]
    ·match k,hk with
     |0,_=>simp [zbL,hsy Q hQP]
     |1,_=>simp [zbL]
     |2,_=>simp [zbL]
   simp [s215_3,j0,j1,j5,j6,r7,r8,r9,h3,h3',zac,hcell2,h4,h4',wu,hQP,hQP',kSt,hg2,hlt3,zaB,hset,d1,d2,x1,x2,x3,d3,wm]
   refine ⟨n - (m+1),by omega,m+1,by omega,rfl,⟨by simp [j0],by simp [j1],by simp [j5],by simp [j6],by rw [next_put];exact jnx,jkp.trans (Kp.put (Nat.le_refl _))⟩,?_,by omega,?_⟩
   ·unfold psJ;rw [hj1,←hT,hQ1,←hQT,←hQ2]
   ·rw [hj1];exact zad (by omega)
  ·have hmn:m=n:=by omega
   subst hmn
   simp [s215_3,j0,j1,j5,j6,r7,r8,r9,h3,h3',zac,hcell2,w1]
   rw [←hfs] at hg2
   rw [←hfs]
   exact ⟨sh.length - (i+1),by omega,i+1,by omega,rfl,⟨by simp [j0],by simp [j1],by simp [j5],by simp [j6],jnx,jkp⟩,rfl,by omega,hg2⟩
 ·have hin:i=sh.length:=by omega
  subst hin
  have hfull:fsT sh sh.length=P:=by unfold fsT;rw [List.take_length,hsum]
  rw [hfull] at hg
  simp [s215_1,q0,e8]
  have hsym:∀p,p< P→syJ log sh P p=syF log sh p:=fun p hp=>by unfold syJ syF;rw [hP,ziE]
  have hini:cel3 P (syJ log sh P) z0 z0=cel3 P (syF log sh) (biS log sh 0 0) (baS log sh 0 0):=by
   apply cel3_ext (cel3_len _ _ _ _)
   intro p j hp hj
   rw [cel3_get hp hj]
   simp only [zbL,hsym p hp,z0,biS,baS]
   rw [if_neg (by omega),if_neg (by omega)]
  rw [hini] at hg
  refine l215_0 S (fun d e H'=>∃s,s≤sh.length∧d=sh.length - s∧RbI H a c sh log P e H'∧e 10= .int .i64 s∧H'.get H.next= .cells (cel3 P (syF log sh) (biS log sh s 0) (baS log sh s 0)) 282 true) sh.length ⟨0,by omega,by omega,⟨by simp [q0],by simp [q1],by simp [q5],by simp [q6],nx,kp⟩,by simp,hg⟩ ?_
  clear hg hini
  rintro d e2 H2 ⟨s,hsl,rfl,J,r10,hg2⟩
  obtain ⟨j0,j1,j5,j6,jnx,jkp⟩:=J
  by_cases h6:s< sh.length
  ·have h6':(s:Int)< sh.length:=by omega
   obtain ⟨n,hx⟩:∃n,sh[s]? =some n:=⟨_,List.getElem?_eq_getElem h6⟩
   obtain ⟨b,o,rfl,hcell,hbl⟩:=hs s n hx
   have hcell2:∀{HX:Heap},Kp H.next H HX→kLd HX (.pointer (some ⟨b,o+s,none⟩))=some (.int .i64 (n:Int)):=fun hk=>(zc9 (hk.2 b hbl)).trans hcell
   have hc2:=hcell2 jkp
   have w1:IntKind.i64.wrap ((s:Int)+1)=(s:Int)+1:=wi (by omega) (by omega)
   have hgd:sh.getD s 0=n:=by rw [List.getD_eq_getElem?_getD,hx];rfl
   have hsum2:n≤P:=by have:=zmO sh s;rw [hgd,hsum] at this;exact this
   simp [s215_0,j0,r10,h6,h6',zac,hc2]
   refine l215_2 S (fun d e' H3=>∃i,i≤P∧d=P - i∧RbI H (some ⟨b,o,none⟩) c sh log P e' H3∧e' 10= .int .i64 s∧e' 11= .int .i64 ((n+((zaH log sh).take i).count s:Nat):Int)∧e' 12= .int .i64 i∧H3.get H.next= .cells (cel3 P (syF log sh) (biS log sh s i) (baS log sh s i)) 282 true) P ⟨0,by omega,by omega,⟨by simp [j0],by simp [j1],by simp [j5],by simp [j6],jnx,jkp⟩,by simp [r10],by simp,by simp,hg2⟩ ?_
   rintro d e3 H3 ⟨i,hi,rfl,K,t10,t11,t12,hg3⟩
   obtain ⟨k0,k1,k5,k6,knx,kkp⟩:=K
   have hc3:=hcell2 kkp
   by_cases h7:i< P∧0< n
   ·obtain ⟨h7,h8⟩:=h7
    have h7':(i:Int)< P:=by omega
    have h8':(0:Int)< n:=by omega
    obtain ⟨σ,hsy⟩:∃σ,(zaH log sh)[i]? =some σ:=⟨_,List.getElem?_eq_getElem (by rw [zdz];omega)⟩
    have hsd:syF log sh i=σ:=by unfold syF;rw [List.getD_eq_getElem?_getD,hsy];rfl
    obtain ⟨hs1,hs2⟩:=zgS hf' hsy
    have hsy0:(cel3 P (syF log sh) (biS log sh s i) (baS log sh s i))[i*3]? =some (.int .u8 (σ:Int)):=by
     have:=cel3_get (sy:=syF log sh) (bi:=biS log sh s i) (ba:=baS log sh s i) (j:=0) h7 (by omega)
     rw [Nat.add_zero] at this
     rw [this]
     simp [zbL,hsd]
    have w2:IntKind.i64.wrap (σ:Int)=σ:=wi (by omega) (by omega)
    have w3:IntKind.i64.wrap ((i:Int)+1)=(i:Int)+1:=wi (by omega) (by omega)
    have htk:(zaH log sh).take (i+1)=(zaH log sh).take i++ [σ]:=by rw [List.take_add_one,hsy];rfl
    by_cases h9:σ=s
    ·subst h9
     obtain ⟨hx1,hx2,hx3,hx4⟩:=zmP hf' hsy
     obtain ⟨X,hX⟩:∃X,X=xT log sh i:=⟨_,rfl⟩
     obtain ⟨C,hC⟩:∃C,C=((zaH log sh).take i).count σ:=⟨_,rfl⟩
     have hC1:((zaH log sh).take (i+1)).count σ=C+1:=by rw [htk,List.count_append,←hC];simp
     rw [hgd,←hX,←hC] at hx1
     rw [hgd,←hX] at hx3
     rw [←hX] at hx4
     rw [←hC,←hx1] at t11
     have p10:2 ^ (log+1)=P*2:=by rw [Nat.pow_succ,hP]
     obtain ⟨c1,c2,c3,c4⟩:=cell_of hf' hsy
     obtain ⟨W,hW⟩:∃W,W=wd X:=⟨_,rfl⟩
     obtain ⟨Bt,hBt⟩:∃Bt,Bt=zbt log sh i:=⟨_,rfl⟩
     obtain ⟨BA,hBA⟩:∃BA,BA=zcK log sh i:=⟨_,rfl⟩
     have hb5:=(zge hf' hsy (m:=0) (Nat.two_pow_pos _)).1
     rw [←hX,←hW,←hBt] at c1
     rw [←hX,←hW] at c2
     rw [←hX,←hBt,←hP] at c3 hb5
     rw [←hBA] at hb5
     rw [←hX,←hBt] at c4
     obtain ⟨Y,hY⟩:∃Y,Y=X*2 ^ Bt:=⟨_,rfl⟩
     have hYl:Y< 4096:=by rw [Nat.add_mul,←hY] at c4;omega
     have u1:IntKind.u32.wrap (X:Int)=X:=wu32 (by omega) (by omega)
     have u2:IntKind.i64.wrap ((log:Int) - W)=((log:Int) - W):=wi (by omega) (by omega)
     have u3:IntKind.i64.wrap ((log:Int) - W+1)=Bt:=by rw [wi (by omega) (by omega)];omega
     have u4:IntKind.i64.wrap ((X:Int)*((2 ^ Bt:Nat):Int))=(Y:Int):=by rw [←Int.natCast_mul,←hY];exact wi (by omega) (by omega)
     have u5:IntKind.i64.wrap ((Y:Int) - P)=BA:=by rw [wi (by omega) (by omega)];rw [←hY] at hb5;omega
     have u6:IntKind.i64.wrap ((X:Int)+1)=((X+1:Nat):Int):=by rw [wi (by omega) (by omega)];omega
     obtain ⟨bi',hbi'⟩:∃bi':Nat→Nat,bi'=fun q=>if q=i then Bt else biS log sh σ i q:=⟨_,rfl⟩
     have hset1:(cel3 P (syF log sh) (biS log sh σ i) (baS log sh σ i)).set (i*3+1) (.int .i64 (Bt:Int))=cel3 P (syF log sh) bi' (baS log sh σ i):=by
      refine cel3_set h7 (by omega) (fun q hq hne=>?_) (fun k hk=>?_)
      ·simp only [zbL,hbi',if_neg hne]
      ·match k,hk with
       |0,_=>simp [zbL]
       |1,_=>simp [zbL,hbi']
       |2,_=>simp [zbL]
     have hset2:(cel3 P (syF log sh) bi' (baS log sh σ i)).set (i*3+2) (.int .i64 (BA:Int))=cel3 P (syF log sh) (biS log sh σ (i+1)) (baS log sh σ (i+1)):=by
      refine cel3_set h7 (by omega) (fun q hq hne=>?_) (fun k hk=>?_)
      ·have e1:biS log sh σ (i+1) q=biS log sh σ i q:=by
        unfold biS
        by_cases hc:syF log sh q< σ∨syF log sh q=σ∧q< i
        ·rw [if_pos hc,if_pos (by omega)]
        ·rw [if_neg hc,if_neg (by omega)]
       have e2:baS log sh σ (i+1) q=baS log sh σ i q:=by
        unfold baS
        by_cases hc:syF log sh q< σ∨syF log sh q=σ∧q< i
        ·rw [if_pos hc,if_pos (by omega)]
        ·rw [if_neg hc,if_neg (by omega)]
       simp only [zbL,hbi',if_neg hne,e1,e2]
      ·have e1:biS log sh σ (i+1) i=Bt:=by unfold biS;rw [if_pos (by omega)];exact hBt.symm
       have e2:baS log sh σ (i+1) i=BA:=by unfold baS;rw [if_pos (by omega)];exact hBA.symm
       match k,hk with
       |0,_=>simp [zbL]
       |1,_=>simp [zbL,hbi',e1]
       |2,_=>simp [zbL,e2]
     have hl1:i*3+1< (cel3 P (syF log sh) (biS log sh σ i) (baS log sh σ i)).length:=by rw [cel3_len];omega
     have hl2:i*3+2< (cel3 P (syF log sh) bi' (baS log sh σ i)).length:=by rw [cel3_len];omega
     have hrd1:(cel3 P (syF log sh) bi' (baS log sh σ i))[i*3+1]? =some (.int .i64 (Bt:Int)):=by
      rw [cel3_get h7 (by omega)];simp [zbL,hbi']
     obtain ⟨L1,hL1⟩:∃L,L=cel3 P (syF log sh) (biS log sh σ i) (baS log sh σ i):=⟨_,rfl⟩
     obtain ⟨L2,hL2⟩:∃L,L=cel3 P (syF log sh) bi' (baS log sh σ i):=⟨_,rfl⟩
     obtain ⟨L3,hL3⟩:∃L,L=cel3 P (syF log sh) (biS log sh σ (i+1)) (baS log sh σ (i+1)):=⟨_,rfl⟩
     rw [←hL1] at hg3 hsy0 hset1 hl1
     rw [←hL2] at hset1 hset2 hl2 hrd1
     rw [←hL3] at hset2
     have bl:=zai hg3
     obtain ⟨H4,hH4⟩:∃H4,H4=H3.put H.next (.cells L2 282 true):=⟨_,rfl⟩
     have g4:H4.get H.next= .cells L2 282 true:=by rw [hH4];exact zad bl
     have n4:H4.next=H3.next:=by rw [hH4];exact next_put
     simp [s215_2,k0,k1,k5,k6,t10,t11,t12,h6,h6',h7,h7',h8,h8',zac,hc3,hg3,hsy0,w2,u1]
     refine (ziz X (by omega)).mono ?_
     rintro v H5 ⟨h5,rfl⟩
     rw [h5,←hW]
     simp [k0,k1,k5,k6,t10,t11,t12,u2,u3,h7,h7',zac,kSt,hg3,hl1,zaB,hset1,←hH4,g4,hrd1]
     refine (zcw H4 Bt (by omega)).mono ?_
     rintro v H6 ⟨h6b,rfl⟩
     rw [h6b,show p2 Bt=((2 ^ Bt:Nat):Int) by unfold p2;exact_mod_cast rfl]
     obtain ⟨PB,hPB⟩:∃PB,PB=2 ^ Bt:=⟨_,rfl⟩
     rw [←hPB] at u4⊢
     simp [k0,k1,k5,k6,t10,t11,t12,u4,u5,u6,h7,h7',zac,kSt,g4,hl2,zaB,hset2,w3]
     refine ⟨P - (i+1),by omega,i+1,by omega,rfl,⟨by simp [k0],by simp [k1],by simp [k5],by simp [k6],by rw [next_put,n4];exact knx,?_⟩,?_,by omega,?_⟩
     ·refine kkp.trans ?_
      rw [hH4]
      exact (Kp.put (Nat.le_refl _)).trans (Kp.put (Nat.le_refl _))
     ·rw [hC1,hx1];omega
     ·rw [←hL3];exact zad (by omega)
    ·have h9':¬(σ:Int)=s:=by omega
     have hcs:((zaH log sh).take (i+1)).count s=((zaH log sh).take i).count s:=by
      rw [htk,List.count_append]
      have:List.count s [σ]=0:=by simp [List.count_cons,h9]
      rw [this];rfl
     have hsame:cel3 P (syF log sh) (biS log sh s i) (baS log sh s i)=cel3 P (syF log sh) (biS log sh s (i+1)) (baS log sh s (i+1)):=by
      apply cel3_ext (cel3_len _ _ _ _)
      intro q j hq hj
      rw [cel3_get hq hj]
      have e1:biS log sh s (i+1) q=biS log sh s i q:=by
       unfold biS
       by_cases hc:syF log sh q< s∨syF log sh q=s∧q< i
       ·rw [if_pos hc,if_pos (by omega)]
       ·rw [if_neg hc,if_neg]
        intro hh
        by_cases hqi:q=i
        ·subst hqi;rw [hsd] at hh hc;omega
        ·omega
      have e2:baS log sh s (i+1) q=baS log sh s i q:=by
       unfold baS
       by_cases hc:syF log sh q< s∨syF log sh q=s∧q< i
       ·rw [if_pos hc,if_pos (by omega)]
       ·rw [if_neg hc,if_neg]
        intro hh
        by_cases hqi:q=i
        ·subst hqi;rw [hsd] at hh hc;omega
        ·omega
      simp only [zbL,e1,e2]
     simp [s215_2,k0,k1,k5,k6,t10,t11,t12,h6,h6',h7,h7',h8,h8',zac,hc3,hg3,hsy0,w2,h9,h9',w3]
     exact ⟨P - (i+1),by omega,i+1,by omega,rfl,⟨by simp [k0],by simp [k1],by simp [k5],by simp [k6],knx,kkp⟩,by rw [hcs],by omega,hsame⟩
   ·have hsame:cel3 P (syF log sh) (biS log sh s i) (baS log sh s i)=cel3 P (syF log sh) (biS log sh (s+1) 0) (baS log sh (s+1) 0):=by
     apply cel3_ext (cel3_len _ _ _ _)
     intro q j hq hj
     rw [cel3_get hq hj]
     have hno:i=P∨syF log sh q≠s:=by
      by_cases hiP:i=P
      ·exact .inl hiP
      ·right
       intro hqs
       have hn0:n=0:=by omega
       obtain ⟨σ,hsy⟩:∃σ,(zaH log sh)[q]? =some σ:=⟨_,List.getElem?_eq_getElem (by rw [zdz];omega)⟩
       have hsd:syF log sh q=σ:=by unfold syF;rw [List.getD_eq_getElem?_getD,hsy];rfl
       rw [hsd] at hqs
       subst hqs
       have:=zgd hf' hsy
       rw [hgd] at this;omega
     have e1:biS log sh (s+1) 0 q=biS log sh s i q:=by
      unfold biS
      by_cases hc:syF log sh q< s∨syF log sh q=s∧q< i
      ·rw [if_pos hc,if_pos (by omega)]
      ·rw [if_neg hc,if_neg (by omega)]
     have e2:baS log sh (s+1) 0 q=baS log sh s i q:=by
      unfold baS
      by_cases hc:syF log sh q< s∨syF log sh q=s∧q< i
      ·rw [if_pos hc,if_pos (by omega)]
      ·rw [if_neg hc,if_neg (by omega)]
     simp only [zbL,e1,e2]
    rw [hsame] at hg3
    have hex:(i:Int)< P→¬(0:Int)< n:=by omega
    by_cases h10:i< P
    ·have h10':(i:Int)< P:=by omega
     have hn0:¬(0:Int)< n:=hex h10'
     have hn0':n=0:=by omega
     simp [s215_2,k0,k1,k5,k6,t10,t11,t12,h6,h6',h10,h10',zac,hc3,hn0,hn0',w1]
     exact ⟨sh.length - (s+1),by omega,s+1,by omega,rfl,⟨by simp [k0],by simp [k1],by simp [k5],by simp [k6],knx,kkp⟩,by omega,hg3⟩
    ·have h10':¬(i:Int)< P:=by omega
     simp [s215_2,k0,k1,k5,k6,t10,t11,t12,h10,h10',w1]
     exact ⟨sh.length - (s+1),by omega,s+1,by omega,rfl,⟨by simp [k0],by simp [k1],by simp [k5],by simp [k6],knx,kkp⟩,by omega,hg3⟩
  ·have hin2:s=sh.length:=by omega
   subst hin2
   simp [s215_0,j0,j6,r10]
   refine ⟨?_,jkp⟩
   rw [hg2]
   congr 1
   symm
   apply cel3_ext (by rw [zci,hP])
   intro q j hq hj
   rw [zeM (by omega) hj]
   obtain ⟨σ,hsy⟩:∃σ,(zaH log sh)[q]? =some σ:=⟨_,List.getElem?_eq_getElem (by rw [zdz];omega)⟩
   have hsd:syF log sh q=σ:=by unfold syF;rw [List.getD_eq_getElem?_getD,hsy];rfl
   obtain ⟨hs1,_⟩:=zgS hf' hsy
   have hsyq:(zaH log sh).getD q 0=syF log sh q:=rfl
   simp only [zdC,zbL,biS,baS,hsyq]
   rw [if_pos hq,if_pos (by rw [hsd];exact .inl hs1),if_pos (by rw [hsd];exact .inl hs1)]
end
theorem zo4 {log:Nat} {sh:List Nat} {p:Nat} (hp:p< 2 ^ log):rd (zdX log sh (2 ^ log)) (p*3) 3=some [.int .u8 ((zaH log sh).getD p 0:Nat),.int .i64 (zbt log sh p:Nat),.int .i64 (zcK log sh p:Nat)]:=by
 have h1:(List.range (2 ^ log))[p]? =some p:=by simp [hp]
 have:=zkc (f:=zdC log sh (2 ^ log)) (z:=3) (zeL log sh (2 ^ log)) h1
 rw [show zdX log sh (2 ^ log)=(List.range (2 ^ log)).flatMap (zdC log sh (2 ^ log)) from rfl,this]
 unfold zdC
 rw [if_pos hp]
theorem zq3 {s:Bytes} {m:Nat} (ho:opN s=some m):m≤8*s.length:=by
 unfold opN at ho
 cases hl:s.getLast? with
 |none=>rw [hl] at ho;cases ho
 |some x=>
  rw [hl] at ho
  simp only at ho
  split at ho
  ·cases ho
  ·cases ho
   have hx:=x.toNat_lt
   obtain ⟨_,h2,_,_⟩:=zc6 8 x.toNat (by omega) (by omega) (by omega)
   have:0< s.length:=by cases s with|nil=>simp at hl|cons=>simp
   omega
structure zs0 (H1:Heap) (cb cc:Nat) (s:Bytes) (log:Nat) (sh:List Nat) (n st0 n0:Nat) (d:Nat) (e:Fe) (H:Heap) (i st nl:Nat) (pre:List Nat) (w:Value):Prop where
 hi:i≤n
 hd:d=n - i
 dec:zbX log sh (zcu s) n st0 n0=(zbX log sh (zcu s) (n - i) st nl).map fun r=>(pre++r.1,r.2)
 len:pre.length=i
 hst:st< 2 ^ log
 hnl:nl≤8*s.length
 bs:zb9 H1 w s 0 nl
 e0:e 0= .slice (some ⟨cb,0,none⟩) (2 ^ log) cc
 e1:e 1= .int .i64 log
 e3:e 3= .int .i64 n
 e10:e 10=w
 e12:e 12= .int .i64 st
 e14:e 14= .int .i64 i
 acc:Acc 5 1 H1.next H.next H (e 13) i (bys pre)
 kp:Kp H1.next H1 H
section
variable {H:Heap} {log:Nat} {sh:List Nat} {s:Bytes} {a:Option Addr} {c cb cc:Nat}
theorem zjL (hce:H.get cb= .cells (zdX log sh (2 ^ log)) 282 true) (hf:Fr log sh) (ha:0< s.length→∃bb,a=some ⟨bb,0,none⟩∧H.get bb= .cells (bvs s) 5 true) (hs:s.length≤100000) (n:Nat) (hn:n≤1048576):
  Wf S 214 [.slice (some ⟨cb,0,none⟩) (2 ^ log) cc,.int .i64 log,.slice a s.length c,.int .i64 n] H fun v H'=>Kp H.next H H'∧FdO H v H' (zcv log sh s n):=by
 refine w214 rfl rfl _ _ _ _ ?_
 have hlt:=zai hce
 have hn0:¬(n:Int)< 0:=by omega
 have hn1:¬(1048576:Int)< n:=by omega
 have hn1':¬1048576< n:=by omega
 simp [s214]
 refine (zo2 ha hs).mono ?_
 rintro v H1 ⟨hk1,hv⟩
 cases ho:opN s with
 |none=>
  rw [ho] at hv
  obtain rfl:=hv
  have hz:zcv log sh s n=none:=by unfold zcv;rw [ho];rfl
  rw [hz]
  simp [FdO,tup]
  exact hk1
 |some m=>
  rw [ho] at hv
  obtain ⟨w,rfl,hB⟩:=hv
  have hz:zcv log sh s n=if log≤m then (zbX log sh (zcu s) n (zax s (m - log) log) (m - log)).bind fun r=>if r.2.1=0∧r.2.2=0 then some r.1 else none else none:=by unfold zcv;rw [ho];rfl
  have hm8:=zq3 ho
  have hhi:=hf.hi
  obtain ⟨wa,wc,hw⟩:=hB.len
  have hlen:∀(HX:Heap) (K:Kv),run S (.lenL (.c w)) [] HX K=K (.int .i64 m) HX:=fun HX K=>by rw [hw];simp
  by_cases hlm:log≤m
  ·rw [if_pos hlm] at hz
   have hlm':¬(m:Int)< log:=by omega
   have hlm'':¬m< log:=by omega
   obtain ⟨n0,hn0e⟩:∃n0,n0=m - log:=⟨_,rfl⟩
   have w1:IntKind.i64.wrap ((m:Int) - log)=(n0:Int):=by rw [wi (by omega) (by omega)];omega
   obtain ⟨v1,hv1,hrun1⟩:=hB.from (S:=S) (i:=n0) (by omega)
   have hr1:∀K:Kv,run S (.slc 3 1 (.c w) (some (.c (.int .i64 n0))) none) [] H1 K=K v1 H1:=fun K=>hrun1 H1 (Kp.refl _ _) K
   obtain ⟨v2,hv2,hrun2⟩:=hB.upto (S:=S) (j:=n0) (by omega)
   have hr2:∀K:Kv,run S (.slc 3 1 (.c w) none (some (.c (.int .i64 n0)))) [] H1 K=K v2 H1:=fun K=>hrun2 H1 (Kp.refl _ _) K
   rw [Nat.zero_add,show m - n0=log by omega] at hv1
   simp [hn0,hn1,hn1',hlen,hlm',hlm'',w1,hr1]
   refine (zcR hv1 (by omega)).mono ?_
   rintro v H2 ⟨h2,rfl⟩
   rw [h2]
   have hNl:=za6 s n0 log
   have p9:2 ^ log≤2 ^ 9:=Nat.pow_le_pow_right (by omega) hf.hi
   have e9:(2:Nat) ^ 9=512:=by decide
   rw [←hn0e] at hz
   obtain ⟨st0,hst0⟩:∃st0,st0=zax s n0 log:=⟨_,rfl⟩
   rw [←hst0] at hNl hz⊢
   have w2:IntKind.i64.wrap (st0:Int)=st0:=wi (by omega) (by omega)
   simp [w1,w2,hlen,hr2]
   refine l214_0 S (fun d e H'=>∃i st nl pre w,zs0 H1 cb cc s log sh n st0 n0 d e H' i st nl pre w) n ⟨0,st0,n0,[],v2,by omega,by omega,by simp,rfl,hNl,by omega,hv2,by simp,by simp,by simp,by simp,by simp,by simp,by simpa [bys] using Acc.nil,Kp.refl _ _⟩ ?_
   rintro d e H' ⟨i,st,nl,pre,w,hI⟩
   obtain ⟨hi,rfl,hdec,hlen2,hst,hnl,hbs,e0,e1,e3,e10,e12,e14,hacc,hkp⟩:=hI
   have n1:=hk1.1
   have np:=hkp.1
   have hkH:Kp H.next H H':=hk1.trans (hkp.mono n1)
   obtain ⟨ba',bc',hw'⟩:=hbs.len
   have hlw:∀(HX:Heap) (K:Kv),run S (.lenL (.c w)) [] HX K=K (.int .i64 nl) HX:=fun HX K=>by rw [hw'];simp
   by_cases h3:i< n
   ·have h3':(i:Int)< n:=by omega
    have hce':H'.get cb= .cells (zdX log sh (2 ^ log)) 282 true:=by rw [hkH.2 cb hlt];exact hce
    have hrd:=zo4 (sh:=sh) hst
    obtain ⟨s1,hs1,hs2,hs3⟩:=zhz hf hst
    have hble:=zm8 hf hst
    obtain ⟨bt,hbt⟩:∃bt,bt=zbt log sh st:=⟨_,rfl⟩
    obtain ⟨ba,hba⟩:∃ba,ba=zcK log sh st:=⟨_,rfl⟩
    have hbasm:=fun {m:Nat} (hm:m< 2 ^ zbt log sh st)=>(zge hf hs1 hm).2
    rw [hs2,←hbt,←hba] at hrd
    rw [←hbt] at hble hbasm
    rw [←hba] at hbasm
    obtain ⟨L,hL⟩:∃L,L=zdX log sh (2 ^ log):=⟨_,rfl⟩
    have hLl:L.length=2 ^ log*3:=by rw [hL];exact zci _ _ _
    rw [←hL] at hce' hrd
    obtain ⟨P,hP⟩:∃P,P=2 ^ log:=⟨_,rfl⟩
    rw [←hP] at e0 hst p9 hLl
    have hst':(st:Int)< P:=by omega
    have hr3:st*3+3≤L.length:=by omega
    have htk:List.take 3 (List.drop (st*3) L)= [.int .u8 (s1:Int),.int .i64 (bt:Int),.int .i64 (ba:Int)]:=by
     unfold rd at hrd;rw [if_pos hr3] at hrd;exact Option.some.inj hrd
    obtain ⟨HA,hHA⟩:∃HA,HA=H'.push (.cells [.int .u8 0,.int .i64 0,.int .i64 0] 282 true):=⟨_,rfl⟩
    have gA:HA.get H'.next= .cells [.int .u8 0,.int .i64 0,.int .i64 0] 282 true:=by rw [hHA];exact zaf
    have nA:HA.next=H'.next+1:=by rw [hHA];simp
    obtain ⟨HB,hHB⟩:∃HB,HB=HA.put H'.next (.cells [.int .u8 (s1:Int),.int .i64 (bt:Int),.int .i64 (ba:Int)] 282 true):=⟨_,rfl⟩
    have gB:HB.get H'.next= .cells [.int .u8 (s1:Int),.int .i64 (bt:Int),.int .i64 (ba:Int)] 282 true:=by rw [hHB];exact zad (by omega)
    have nB:HB.next=H'.next+1:=by rw [hHB,next_put];exact nA
    have oB:∀k,k< H'.next→HB.get k=H'.get k:=fun k hk=>by rw [hHB,zaa (by omega),hHA,zae hk]
    have hkB:Kp H1.next H1 HB:=hkp.trans ⟨by omega,fun k hk=>oB k (by omega)⟩
    have hkBH:Kp H.next H HB:=hk1.trans (hkB.mono n1)
    have hstep:∀f,zbX log sh (zcu s) (f+1) st nl=if bt≤nl then (zbX log sh (zcu s) f (ba+zcu s / 2 ^ (nl - bt) % 2 ^ bt) (nl - bt)).map fun r=>(s1::r.1,r.2) else none:=fun f=>by
     rw [hbt,hba];show (if _ then _ else _)=_;rw [hs2]
    have hni:n - i=(n - (i+1))+1:=by omega
    by_cases hfit:bt≤nl
    ·have hfit':¬(nl:Int)< bt:=by omega
     have hfit'':¬nl< bt:=by omega
     rw [hni,hstep,if_pos hfit,zkp (by omega)] at hdec
     have hMl:=za6 s (nl - bt) bt
     obtain ⟨kk,hkk⟩:∃kk,kk=nl - bt:=⟨_,rfl⟩
     rw [←hkk] at hdec hMl
     obtain ⟨M,hM⟩:∃M,M=zax s kk bt:=⟨_,rfl⟩
     rw [←hM] at hdec hMl
     have pbt:2 ^ bt≤2 ^ 9:=Nat.pow_le_pow_right (by omega) (by omega)
     have x1:IntKind.i64.wrap ((nl:Int) - bt)=(kk:Int):=by rw [wi (by omega) (by omega)];omega
     have x2:IntKind.i64.wrap (M:Int)=M:=wi (by omega) (by omega)
     have hsb:=hbasm hMl
     have x3:IntKind.i64.wrap ((ba:Int)+M)=((ba+M:Nat):Int):=by rw [wi (by omega) (by omega)];omega
     have x4:IntKind.i64.wrap ((i:Int)+1)=(i:Int)+1:=wi (by omega) (by omega)
     have haccB:Acc 5 1 H1.next H'.next HB (e 13) i (bys pre):=hacc.kp fun k _ hk=>oB k hk
     obtain ⟨v3,HC,hap,hAC,hnC,hkC⟩:=haccB.app (bytes:=1) (new:= [.int .u8 (s1:Int)]) (by omega) (by omega) rfl (by unfold zag;omega)
     have gC:HC.get H'.next= .cells [.int .u8 (s1:Int),.int .i64 (bt:Int),.int .i64 (ba:Int)] 282 true:=by rw [hkC _ (by omega) (by omega)];exact gB
     have hkC1:Kp H1.next H1 HC:=⟨by omega,fun k hk=>by rw [hkC k (by omega) (.inl hk)];exact hkB.2 k hk⟩
     obtain ⟨va,hva,hruna⟩:=hbs.from (S:=S) (i:=kk) (by omega)
     have hra:∀K:Kv,run S (.slc 3 1 (.c w) (some (.c (.int .i64 kk))) none) [] HC K=K va HC:=fun K=>hruna HC hkC1 K
     obtain ⟨vb,hvb,hrunb⟩:=hbs.upto (S:=S) (j:=kk) (by omega)
     have hrb:∀K:Kv,run S (.slc 3 1 (.c w) none (some (.c (.int .i64 kk)))) [] HC K=K vb HC:=fun K=>hrunb HC hkC1 K
     rw [Nat.zero_add,show nl - kk=bt by omega] at hva
     simp [s214_0,e0,e1,e3,e10,e12,e14,h3,h3',hst,hst',zac,zaM,hce',-zbr,hr3,htk,rd,←hHA,zaW,gA,wr,←hHB]
     simp [gB,e0,e1,e3,e10,e12,e14,hlw,hfit,hfit',hfit'',x1,zac,zaC,zaQ,zaw,cellsL,wr,zaJ,rd,hap,gC,hra]
     refine (zcR (hva.kp (hkC1.mono (Nat.le_refl _))) (by omega)).mono ?_
     rintro vv HD ⟨hD,rfl⟩
     rw [hD,←hM]
     simp [kop,Env.ev,gC,zgu,x2,x3,e0,e1,e3,e10,e12,e14,hrb,x4]
     refine ⟨n - (i+1),by omega,i+1,ba+M,kk,pre++ [s1],vb,by omega,rfl,?_,by simp [hlen2],by omega,by omega,hvb,by simp [e0,hP],by simp [e1],by simp [e3],by simp,by simp,by simp,?_,hkC1⟩
     ·rw [hdec,Option.map_map]
      congr 1
      funext r
      simp
     ·simpa [bys] using hAC
    ·have hfit':(nl:Int)< bt:=by omega
     have hfit'':nl< bt:=by omega
     rw [hni,hstep,if_neg hfit] at hdec
     have hz2:zbX log sh (zcu s) n st0 n0=none:=by rw [hdec];rfl
     rw [hz,hz2]
     simp [s214_0,e0,e1,e3,e10,e12,e14,h3,h3',hst,hst',zac,zaM,hce',-zbr,hr3,htk,rd,←hHA,zaW,gA,wr,←hHB]
     simp [gB,e0,e1,e3,e10,e12,e14,hlw,hfit,hfit',hfit'',zac,tup,FdO]
     exact hkBH
   ·have hin:i=n:=by omega
    subst hin
    have hd0:zbX log sh (zcu s) (i - i) st nl=some ([],st,nl):=by rw [Nat.sub_self];rfl
    rw [hd0] at hdec
    simp only [Option.map_some,List.append_nil] at hdec
    rw [hdec] at hz
    simp only [Option.bind_some] at hz
    by_cases hs0:st=0
    ·subst hs0
     by_cases hn00:nl=0
     ·subst hn00
      rw [if_pos ⟨rfl,rfl⟩] at hz
      rw [hz]
      simp [s214_0,e3,e10,e12,e14,hlw,tup,FdO]
      refine ⟨hkH,?_⟩
      rw [hlen2]
      rcases hacc with ⟨h1,h2,h3⟩|⟨bb,cc2,h1,h2,h3⟩
      ·exact .inl ⟨h1,h2,h3⟩
      ·exact .inr ⟨bb,cc2,by omega,h2,h3⟩
     ·rw [if_neg (fun h=>hn00 h.2)] at hz
      have hnl0:0< nl:=by omega
      have hnl0':(0:Int)< nl:=by omega
      rw [hz]
      simp [s214_0,e3,e10,e12,e14,hlw,hnl0,hnl0',tup,FdO]
      exact hkH
    ·rw [if_neg (fun h=>hs0 h.1)] at hz
     have hs0':¬(st:Int)=0:=by omega
     rw [hz]
     simp [s214_0,e3,e10,e12,e14,hs0,hs0',tup,FdO]
     exact hkH
  ·rw [if_neg hlm] at hz
   have hlm':(m:Int)< log:=by omega
   have hlm'':m< log:=by omega
   rw [hz]
   simp [hn0,hn1,hn1',hlen,hlm',hlm'',FdO,tup]
   exact hk1
end
theorem zdb {s:Bytes} {m:Nat} {p:Nat×Bytes} (h:zam s false m=some p):s.drop (s.length - p.2.length)=p.2∧p.2.length< s.length:=by
 have hio:zam s false m=(pG 0 s).bind fun p=>if p.1≤m then some p else none:=by simp [zam,zau]
 rw [hio] at h
 cases hp:pG 0 s with
 |none=>rw [hp] at h;cases h
 |some q=>
  rw [hp] at h
  simp only [Option.bind_some] at h
  split at h
  ·cases h;exact zbU hp
  ·cases h
theorem zdG {s u:Bytes} {k:Nat} (h:s.drop (s.length - u.length)=u) (hl:u.length≤s.length) (hk:k≤u.length):s.drop (s.length - (u.drop k).length)=u.drop k:=by
 rw [List.length_drop,show s.length - (u.length - k)=(s.length - u.length)+k by omega,←List.drop_drop,h]
theorem zdc {s:Bytes} {m:Nat} {p:Bytes×Bytes} (h:zaz s false m=some p):s.drop (s.length - p.2.length)=p.2∧p.2.length< s.length:=by
 have ht:zaz s false m=(zam s false m).bind fun p=>if p.1≤p.2.length then some (p.2.take p.1,p.2.drop p.1) else none:=rfl
 rw [ht] at h
 cases hi:zam s false m with
 |none=>rw [hi] at h;cases h
 |some q=>
  rw [hi] at h
  simp only [Option.bind_some] at h
  obtain ⟨h1,h2⟩:=zdb hi
  split at h
  ·rename_i hle
   cases h
   refine ⟨zdG h1 (by omega) hle,by simp;omega⟩
  ·cases h
theorem zkL {s:Bytes} {n:Nat} {p:Bytes×Bytes} (h:shD s n=some p):s.drop (s.length - p.2.length)=p.2∧p.2.length< s.length:=by
 unfold shD at h
 cases e1:zaz s false 4096 with
 |none=>rw [e1] at h;cases h
 |some a=>
  rw [e1] at h
  simp only [Option.bind_some] at h
  cases e2:zaz a.2 false 4096 with
  |none=>rw [e2] at h;cases h
  |some b=>
   rw [e2] at h
   simp only [Option.bind_some] at h
   obtain ⟨a1,a2⟩:=zdc e1
   obtain ⟨b1,b2⟩:=zdc e2
   have hp:p.2=b.2:=by
    cases e3:hdT a.1 with
    |none=>rw [e3] at h;cases h
    |some q=>
     rw [e3] at h
     simp only [Option.bind_some] at h
     cases e4:zcv q.2 q.1 b.1 n with
     |none=>rw [e4] at h;cases h
     |some l=>rw [e4] at h;cases h;rfl
   rw [hp]
   refine ⟨?_,by omega⟩
   have:=zdG (k:=a.2.length - b.2.length) a1 (by omega) (by omega)
   rw [b1] at this
   exact this
def UnR (s:Bytes) (H:Heap) (v:Value) (H':Heap):Option (Bytes×Bytes)→Prop
 |none=>v= .tuple #[.slice none 0 0,.int .i64 0]
 |some p=>∃w,v= .tuple #[w,.int .i64 ((s.length - p.2.length:Nat):Int)]∧Acc 5 1 H.next H'.next H' w p.1.length (bvs p.1)
section
variable {H:Heap} {s:Bytes}
theorem zlA (hs:s.length≤100000) (n:Nat) (hn:n≤4096):Wf S 172 [.string (ofL s),.int .i64 n] H fun v H'=>Kp H.next H H'∧UnR s H v H' (shD s n):=by
 refine w172 rfl rfl _ _ ?_
 simp [s172]
 refine (zfh hs).mono ?_
 rintro v H1 ⟨hk1,hv⟩
 unfold shD
 cases e1:zaz s false 4096 with
 |none=>
  rw [e1] at hv
  obtain rfl:=hv
  simp [tup,UnR]
  exact hk1
 |some a=>
  rw [e1] at hv
  obtain rfl:=hv
  obtain ⟨a1,a2⟩:=zdc e1
  have al:=zbT e1
  obtain ⟨k1,hk1e⟩:∃k1,k1=s.length - a.2.length:=⟨_,rfl⟩
  rw [←hk1e] at a1⊢
  have k10:¬k1=0:=by omega
  have k10':¬(k1:Int)=0:=by omega
  have hsf:=fun K HX=>zbs (S:=S) (e:= []) (K:=K) (H:=HX) (l:=s) (k:= .i64) (a:=(k1:Int))
  have hsc:(0:Int)≤k1∧(k1:Int)≤s.length:=by omega
  simp only [Int.toNat_natCast,a1,if_pos hsc] at hsf
  simp only [Option.bind_some]
  simp [k10,k10',hsf]
  refine (zfh (s:=a.2) (by omega)).mono ?_
  rintro v H2 ⟨hk2,hv⟩
  have hk12:Kp H.next H H2:=hk1.trans (hk2.mono hk1.1)
  cases e2:zaz a.2 false 4096 with
  |none=>
   rw [e2] at hv
   obtain rfl:=hv
   simp [tup,UnR]
   exact hk12
  |some b=>
   rw [e2] at hv
   obtain rfl:=hv
   obtain ⟨b1,b2⟩:=zdc e2
   have bl:=zbT e2
   obtain ⟨k2,hk2e⟩:∃k2,k2=a.2.length - b.2.length:=⟨_,rfl⟩
   rw [←hk2e]
   have k20:¬k2=0:=by omega
   have k20':¬(k2:Int)=0:=by omega
   have hs2:=fun K=>zb4 (S:=S) (e:= []) (K:=K) (H:=H2) (l:=a.1) (t:=5) (by unfold zag;omega)
   simp only [Option.bind_some]
   simp [k20,k20',hs2]
   obtain ⟨H3,hH3⟩:∃H3,H3=H2.push (.cells (bvs a.1) 5 true):=⟨_,rfl⟩
   have g3:H3.get H2.next= .cells (bvs a.1) 5 true:=by rw [hH3];exact zaf
   have hk3:Kp H.next H H3:=hk12.trans (by rw [hH3];exact Kp.push hk12.1)
   rw [←hH3]
   refine (zhE (H:=H3) (a:=some ⟨H2.next,0,none⟩) (c:=zas) (fun _=>⟨_,rfl,g3⟩) (by omega)).mono ?_
   rintro v H4 ⟨hk4,hA4⟩
   have hB:=hA4.bitS
   have hk4':Kp H.next H H4:=hk3.trans (hk4.mono hk3.1)
   try simp
   refine (zo3 hB (by omega)).mono ?_
   rintro v2 H5 ⟨hk5,hv⟩
   have hk5':Kp H.next H H5:=hk4'.trans (hk5.mono hk4'.1)
   rw [znv]
   cases ht:zdA a.1 with
   |none=>
    rw [ht] at hv
    obtain rfl:=hv
    simp [tup,UnR]
    exact hk5'
   |some q=>
    rw [ht] at hv
    obtain ⟨w,rfl,hacc,hq3,hq8⟩:=hv
    have hfr:=zkC ht
    obtain ⟨log,hlog⟩:∃log,log=zax a.1 0 3+5:=⟨_,rfl⟩
    rw [←hlog] at hfr⊢
    obtain ⟨sh,ea⟩:=q
    simp only at hacc hq3 hq8 hfr
    simp only [Option.bind_some]
    have ea0:¬ea=0:=by omega
    have ea0':¬(ea:Int)=0:=by omega
    obtain ⟨vb,hvb,hrunb⟩:=hB.from (S:=S) (i:=ea) hq8
    have hrb:∀K:Kv,run S (.slc 3 1 (.c v) (some (.c (.int .i64 ea))) none) [] H5 K=K vb H5:=fun K=>hrunb H5 hk5 K
    rw [Nat.zero_add] at hvb
    simp [ea0,ea0',hrb]
    refine (zgv (hvb.kp hk5) (by omega)).mono ?_
    rintro v3 H6 ⟨h6,rfl⟩
    rw [h6]
    have hend:(decide (8*a.1.length - ea< 8∧zax a.1 ea (8*a.1.length - ea)=0))=decide (ended a.1 ea):=rfl
    rw [hend]
    by_cases hen:ended a.1 ea
    ·rw [decide_eq_true hen,if_pos hen]
     obtain ⟨wa,wc,rfl,hwrow⟩:=hacc.row
     obtain ⟨wa2,wc2,hwe,hwnv,_⟩:=hacc.nv rfl
     cases hwe
     have hwa:0< sh.length→∃bb o,wa=some ⟨bb,o,none⟩:=fun hp=>by
      obtain ⟨aa,cc,h1,h2⟩:=hacc.len
      obtain ⟨b',h3,_⟩:=h2 hp
      cases h1
      exact ⟨b',0,h3⟩
     simp
     refine (zo1 hwrow hwa hfr).mono ?_
     rintro v4 H7 ⟨h7,rfl⟩
     rw [h7]
     simp
     refine (znJ hwnv hfr).mono ?_
     rintro v5 H8 ⟨rfl,hce,hk8⟩
     have hk8':Kp H.next H H8:=hk5'.trans (hk8.mono hk5'.1)
     have hs3:=fun K=>zb4 (S:=S) (e:= []) (K:=K) (H:=H8) (l:=b.1) (t:=5) (by unfold zag;omega)
     simp [hs3]
     obtain ⟨H9,hH9⟩:∃H9,H9=H8.push (.cells (bvs b.1) 5 true):=⟨_,rfl⟩
     have g9:H9.get H8.next= .cells (bvs b.1) 5 true:=by rw [hH9];exact zaf
     have hk9:Kp H.next H H9:=hk8'.trans (by rw [hH9];exact Kp.push hk8'.1)
     have hce9:H9.get H5.next= .cells (zdX log sh (2 ^ log)) 282 true:=by rw [hH9,zae (zai hce)];exact hce
     rw [←hH9]
     have hD:=zjL (H:=H9) (cb:=H5.next) (cc:=2 ^ log) (a:=some ⟨H8.next,0,none⟩) (c:=zas) hce9 hfr (fun _=>⟨_,rfl,g9⟩) (by omega) n (by omega)
     have hPc:((2 ^ log:Nat):Int)=(2:Int) ^ log:=by exact_mod_cast rfl
     refine hD.mono ?_
     rintro v6 H10 ⟨hk10,hv⟩
     have hkX:Kp H.next H H10:=hk9.trans (hk10.mono hk9.1)
     cases hf:zcv log sh b.1 n with
     |none=>
      rw [hf] at hv
      simp only [FdO] at hv
      subst hv
      simp [tup,UnR]
      exact hkX
     |some l=>
      rw [hf] at hv
      obtain ⟨w9,rfl,hacc9⟩:=hv
      have hl256:=zkF hfr hf
      rw [zkD l hl256] at hacc9
      have wk:IntKind.i64.wrap ((k1:Int)+k2)=((s.length - b.2.length:Nat):Int):=by rw [wi (by omega) (by omega)];omega
      obtain ⟨KK,hKK⟩:∃KK,KK=s.length - b.2.length:=⟨_,rfl⟩
      rw [←hKK] at wk
      simp only [Option.map_some,UnR,←hKK]
      simp [tup,wk]
      refine ⟨hkX,?_⟩
      rcases hacc9 with ⟨h1,h2,h3⟩|⟨bb,cc2,h1,h2,h3⟩
      ·exact .inl ⟨h1,h2,h3⟩
      ·exact .inr ⟨bb,cc2,by have:=hk9.1;omega,h2,h3⟩
    ·rw [decide_eq_false hen,if_neg hen]
     simp [tup,UnR]
     exact hk5'
end
set_option maxHeartbeats 4000000
def lnR:Nat→Bytes→List Nat→Option (List Nat×Bytes)
 |0,s,l=>some (l,s)
 |n+1,s,l=>(zam s false 1099511627776).bind fun p=>lnR n p.2 (l++ [p.1])
def lnP (s:Bytes):Nat×List Nat×Bytes:=match (zam s false 100).bind fun p=>lnR p.1 p.2 [] with
 |none=>(3,[],[])
 |some q=>if 512< q.1.sum then (5,[],[]) else (0,q.1,q.2)
def cuts:List Nat→Bytes→List Bytes
 | [],_=> []
 |n::l,b=>b.take n::cuts l (b.drop n)
noncomputable def btP (s dict:Bytes):Nat×List Bytes:=
 if (lnP s).1=0 then
  if (dcP (lnP s).2.2 dict 512).1=0 then (if (dcP (lnP s).2.2 dict 512).2.length=(lnP s).2.1.sum then (0,cuts (lnP s).2.1 (dcP (lnP s).2.2 dict 512).2) else (3,[]))
  else ((dcP (lnP s).2.2 dict 512).1,[])
 else ((lnP s).1,[])
def nts (l:List Nat):List Value:=l.map fun n:Nat=> .int .i64 (n:Int)
theorem zkM (l m:List Nat):nts (l++m)=nts l++nts m:=by simp [nts]
theorem zhL {l:List Nat} {i n:Nat} (h:l[i]? =some n):(nts l)[i]? =some (.int .i64 n):=by simp [nts,h]
theorem zkN:∀{n:Nat} {s:Bytes} {l:List Nat} {q:List Nat×Bytes},lnR n s l=some q→q.1.length=l.length+n∧q.2.length≤s.length∧∀x∈q.1,x∈l∨x≤1099511627776
 |0,s,l,q,h=>by cases h;exact ⟨rfl,Nat.le_refl _,fun x hx=> .inl hx⟩
 |n+1,s,l,q,h=>by
  simp only [lnR,Option.bind_eq_some_iff] at h
  obtain ⟨p,h1,h2⟩:=h
  obtain ⟨a1,a2,a3⟩:=zkN h2
  have hs:=(zdb h1).2
  have hm:p.1≤1099511627776:=by
   unfold zam at h1
   cases hg:zau s false with
   |none=>rw [hg] at h1;cases h1
   |some r=>
    rw [hg] at h1
    simp only [Option.bind_some] at h1
    split at h1
    ·rename_i hle;cases h1;exact hle
    ·cases h1
  refine ⟨by rw [a1];simp;omega,by omega,fun x hx=>?_⟩
  rcases a3 x hx with h|h
  ·rcases List.mem_append.1 h with h|h
   ·exact .inl h
   ·obtain rfl:=List.mem_singleton.1 h;exact .inr hm
  ·exact .inr h
structure LnI (H0:Heap) (b:Nat) (f:Option (List Nat×Bytes)) (n:Nat) (d:Nat) (e:Fe) (H:Heap) (i:Nat) (s:Bytes) (bad:Bool) (l:List Nat):Prop where
 hi:i≤n
 hd:d=n - i
 rd:Rd H b s bad
 hb:b< H0.next
 q:Kq b H0 H
 ho:l.length=i
 hs:l.sum≤1099511627776*i
 acc:Acc 3 1 H0.next H.next H (e 5) i (nts l)
 fin:if bad=true then f=none else lnR (n - i) s l=f
 e0:e 0= .pointer (some ⟨b,0,none⟩)
 e6:e 6= .int .i64 (l.sum:Nat)
 e12:e 12= .int .i64 n
 e13:e 13= .int .i64 i
def LnS (H0:Heap) (b:Nat) (f:Option (List Nat×Bytes)) (n:Nat) (d:Nat) (e:Fe) (H:Heap):Prop:=∃i s bad l,LnI H0 b f n d e H i s bad l
section
variable {H:Heap} {b:Nat} {s:Bytes}
theorem zlB (h:Rd H b s false) (hs:s.length≤100000):Wf S 71 [.pointer (some ⟨b,0,none⟩)] H fun v H'=>∃w,v= .tuple #[w,.int .i64 ((lnP s).1:Nat)]∧
  ((lnP s).1=0→Rd H' b (lnP s).2.2 false∧Kq b H H'∧Acc 3 1 H.next H'.next H' w (lnP s).2.1.length (nts (lnP s).2.1)):=by
 have hb:b< H.next:=zai h
 refine w71 rfl rfl _ ?_
 simp [s71]
 refine (zeI h 100 (by omega)).mono ?_
 rintro v H1 ⟨rfl,hH1⟩
 have r1:Rd H1 b (grL (zam s false 100)) (zam s false 100).isNone:=by rw [hH1];exact zad hb
 have q1:Kq b H H1:=by rw [hH1];exact Kq.put
 have n1:H1.next=H.next:=by rw [hH1,next_put]
 clear hH1
 try simp
 refine (zbc r1).mono ?_
 rintro v H2 ⟨rfl,rfl⟩
 unfold lnP
 cases hi:zam s false 100 with
 |none=>simp [tup]
 |some p=>
  rw [hi] at r1
  simp only [grL,Option.isNone_some] at r1
  have hp100:p.1≤100:=by
   unfold zam at hi
   cases hg:zau s false with
   |none=>rw [hg] at hi;cases hi
   |some r=>
    rw [hg] at hi
    simp only [Option.bind_some] at hi
    split at hi
    ·rename_i hle;cases hi;exact hle
    ·cases hi
  have hps:=(zdb hi).2
  simp [gvN]
  refine l71_0 S (LnS H2 b (lnR p.1 p.2 []) p.1) p.1 ⟨0,p.2,false,[],by omega,rfl,r1,zai r1,Kq.refl _ _,rfl,by simp,by simp [nts];exact Acc.nil,by simp,by simp,by simp,by simp,by simp⟩ ?_
  rintro d e H3 ⟨i,s',bad,l,hi',rfl,hrd,hb',q,ho,hsum,acc,fin,e0,e6,e12,e13⟩
  by_cases hlt:i< p.1
  ·have hlt':(i:Int)< p.1:=by omega
   simp [s71_0,e0,e6,e12,e13,hlt,hlt']
   refine (zeI hrd 1099511627776 (by omega)).mono ?_
   rintro v H4 ⟨rfl,hH4⟩
   obtain ⟨o,ho'⟩:∃o,o=zam s' bad 1099511627776:=⟨_,rfl⟩
   rw [←ho'] at hH4⊢
   have hb3:b< H3.next:=zai hrd
   have r4:Rd H4 b (grL o) o.isNone:=by rw [hH4];exact zad hb3
   have n4:H4.next=H3.next:=by rw [hH4,next_put]
   have q4:Kq b H2 H4:=q.trans (by rw [hH4];exact Kq.put)
   have acc4:Acc 3 1 H2.next H4.next H4 (e 5) i (nts l):=(acc.kp fun k hk1 hk2=>by rw [hH4];exact zaa (by omega)).mono (by omega)
   have hgv:gvN o≤1099511627776:=by
    cases bad with
    |true=>rw [ho'];simp [zam,zau,gvN]
    |false=>
     cases hoo:o with
     |none=>simp [gvN]
     |some z=>rw [hoo] at ho';exact (zdy ho'.symm).1
   obtain ⟨m,hm⟩:∃m,p.1 - i=m+1:=⟨p.1 - i - 1,by omega⟩
   have fin':if o.isNone=true then lnR p.1 p.2 []=none else lnR m (grL o) (l++ [gvN o])=lnR p.1 p.2 []:=by
    cases bad with
    |true=>
     have:o=none:=by rw [ho'];simp [zam,zau]
     rw [this];simpa using fin
    |false=>
     simp only [Bool.false_eq_true,if_false,hm,lnR,←ho'] at fin
     cases hoo:o with
     |none=>rw [hoo] at fin;simpa using fin.symm
     |some z=>rw [hoo] at fin;simpa [grL,gvN] using fin
   have w1:IntKind.i64.wrap ((i:Int)+1)=((i+1:Nat):Int):=by rw [wi (by omega) (by omega)];omega
   have w2:IntKind.i64.wrap ((l.sum:Nat)+(gvN o:Int))=((l++ [gvN o]).sum:Nat):=by
    rw [wi (by omega) (by omega)];simp
   obtain ⟨v',H5,e1,hA,hn5,hk5⟩:=acc4.app (bytes:=8) (new:= [.int .i64 (gvN o:Nat)]) q4.1 (Nat.le_refl _) rfl (by unfold zag;omega)
   simp [zaC,zaQ,zaw,cellsL,wr,e1,zaJ,rd,e0,e6,e12,e13,w1,w2]
   exact ⟨p.1 - (i+1),by omega,i+1,grL o,o.isNone,l++ [gvN o],by omega,rfl,by
    show H5.get b=_
    rw [hk5 _ (by omega) (.inl (by omega))];exact r4,hb',⟨by have:=q4.1;omega,fun k hk1 hk2=>by rw [hk5 k (by have:=q4.1;omega) (.inl hk1)];exact q4.2 k hk1 hk2⟩,by simp [ho],by simp;omega,by
    simpa [zkM,nts] using hA,by rw [show p.1 - (i+1)=m by omega];exact fin',by simp [e0],by simp,by simp [e12],by simp⟩
  ·obtain rfl:i=p.1:=by omega
   simp [s71_0,e0,e6,e12,e13]
   refine (zbc hrd).mono ?_
   rintro v H4 ⟨rfl,rfl⟩
   cases bad with
   |true=>
    rw [if_pos rfl] at fin
    simp [fin,tup]
   |false=>
    simp only [Bool.false_eq_true,if_false,Nat.sub_self,lnR] at fin
    by_cases h5:512< l.sum
    ·have h5':(512:Int)< (l.sum:Nat):=by omega
     simp [←fin,h5,h5',tup]
    ·have h5':¬(512:Int)< (l.sum:Nat):=by omega
     simp [←fin,h5,h5',tup]
     rw [←n1,ho]
     exact ⟨hrd,q1.trans q,acc⟩
end
theorem zkO {s dict:Bytes}:(dcP s dict 512).2.length≤512:=by
 unfold dcP
 split
 ·simp
 ·rename_i p hp
  split
  ·simp
  ·rename_i hs
   split
   ·simp
   ·rename_i b hb
    have:=zhK hb
    split
    ·simp only;omega
    ·simp
def ctR:List Nat→Bytes→List Bytes→Nat×List Bytes
 | [],b,out=>if b= [] then (0,out) else (3,[])
 |n::l,b,out=>if b.length< n then (3,[]) else ctR l (b.drop n) (out++ [b.take n])
theorem zjM:∀(l:List Nat) (b:Bytes) (out:List Bytes),ctR l b out=if b.length=l.sum then (0,out++cuts l b) else (3,[])
 | [],b,out=>by
   simp only [ctR,cuts,List.append_nil,List.sum_nil,List.length_eq_zero_iff]
 |n::l,b,out=>by
  have hs:(n::l).sum=n+l.sum:=List.sum_cons
  simp only [ctR,cuts]
  by_cases h:b.length< n
  ·rw [if_pos h,if_neg (by rw [hs];omega)]
  ·rw [if_neg h,zjM l]
   by_cases h2:b.length=n+l.sum
   ·rw [if_pos (by rw [List.length_drop];omega),if_pos (by rw [hs];exact h2)];simp
   ·rw [if_neg (by rw [List.length_drop];omega),if_neg (by rw [hs];exact h2)]
theorem ziX:∀(l:List Nat) (b:Bytes),(cuts l b).length=l.length
 | [],b=>rfl
 |n::l,b=>by simp [cuts,ziX l]
theorem znK {s:Bytes} (h:(lnP s).1=0):(lnP s).2.1.length≤100∧(lnP s).2.1.sum≤512∧(lnP s).2.2.length≤s.length:=by
 unfold lnP at h⊢
 cases hi:zam s false 100 with
 |none=>rw [hi] at h;cases h
 |some p=>
  have hp:=zdy hi
  rw [hi] at h
  simp only [Option.bind_some] at h⊢
  cases hr:lnR p.1 p.2 [] with
  |none=>rw [hr] at h;cases h
  |some q=>
   obtain ⟨a1,a2,_⟩:=zkN hr
   rw [hr] at h
   simp only at h⊢
   by_cases h5:512< q.1.sum
   ·rw [if_pos h5] at h;cases h
   ·rw [if_neg h5]
    simp only [List.length_nil,Nat.zero_add] at a1
    exact ⟨by simp only;omega,by simp only;omega,by simp only;omega⟩
structure CtI (a:Option Addr) (c:Nat) (L:List Nat) (f:Nat×List Bytes) (HL:Heap) (d:Nat) (e:Fe) (H:Heap) (i:Nat) (r:Bytes) (out:List Bytes):Prop where
 hi:i≤L.length
 hd:d=L.length - i
 ho:out.length=i
 hr:r.length≤512
 kp:Kp HL.next HL H
 acc:Acc 9 1 HL.next H.next H (e 10) i (strs out)
 fin:ctR (L.drop i) r out=f
 e9:e 9= .string (ofL r)
 e33:e 33= .slice a L.length c
 e34:e 34= .int .i64 L.length
 e35:e 35= .int .i64 i
section
variable {H:Heap} {s dict:Bytes}
theorem zq4 (hs:s.length≤100000) (hd:dict.length≤100000):Wf S 40 [.string (ofL s),.string (ofL dict)] H fun v H'=>∃a c,v= .tuple #[.slice a (btP s dict).2.length c,.int .i64 ((btP s dict).1:Nat)]∧Sv H' a (btP s dict).2:=by
 refine w40 rfl rfl _ _ ?_
 simp [s40]
 refine (zgi s).mono ?_
 rintro v H1 ⟨rfl,hH1⟩
 have r1:Rd H1 H.next s false:=by rw [hH1];exact zaf
 clear hH1
 try simp
 refine (zlB r1 hs).mono ?_
 rintro v H2 ⟨w,rfl,hk⟩
 unfold btP
 by_cases h0:(lnP s).1=0
 ·obtain ⟨r2,q2,acc2⟩:=hk h0
  obtain ⟨l1,l2,l3⟩:=znK h0
  obtain ⟨L,hL⟩:∃L,L=(lnP s).2.1:=⟨_,rfl⟩
  obtain ⟨r,hr⟩:∃r,r=(lnP s).2.2:=⟨_,rfl⟩
  rw [←hL] at acc2 l1 l2⊢
  rw [←hr] at r2 l3⊢
  have hb1:H.next< H1.next:=zai r1
  have hb2:H.next< H2.next:=zai r2
  simp [h0]
  refine (zqL r2).mono ?_
  rintro v H3 ⟨rfl,hH3⟩
  simp only [Bool.false_eq_true,if_false] at hH3⊢
  have n3:H3.next=H2.next:=by rw [hH3,next_put]
  have acc3:Acc 3 1 H1.next H3.next H3 w L.length (nts L):=(acc2.kp fun k hk1 hk2=>by rw [hH3];exact zaa (by omega)).mono (by omega)
  obtain ⟨a,c,rfl,hg⟩:=acc3.len
  try simp
  refine (zlw r dict (by omega) hd 512).mono ?_
  rintro v H4 ⟨rfl,hk4⟩
  have hd5:= @zkO r dict
  obtain ⟨z,hz⟩:∃z,z=dcP r dict 512:=⟨_,rfl⟩
  rw [←hz] at hk4 hd5⊢
  by_cases h1:z.1=0
  ·have k4:=hk4 h1
   have hg4:0< L.length→∃b,a=some ⟨b,0,none⟩∧b< H4.next∧H4.get b= .cells (nts L) 3 true:=fun hp=>by
    obtain ⟨b,h2,h3⟩:=hg hp
    have hlt:b< H3.next:=zai h3
    exact ⟨b,h2,by have:=k4.1;omega,by rw [k4.2 b hlt];exact h3⟩
   simp [h1]
   refine l40_0 S (fun d e H'=>∃i r' out,CtI a c L (ctR L z.2 []) H4 d e H' i r' out) L.length ⟨0,z.2,[],by omega,rfl,rfl,hd5,Kp.refl _ _,by simp [strs];exact Acc.nil,by simp,by simp,by simp,by simp,by simp⟩ ?_
   rintro d e H5 ⟨i,r',out,hi,rfl,ho,hr',kp,acc,fin,e9,e33,e34,e35⟩
   by_cases hlt:i< L.length
   ·have hlt':(i:Int)< L.length:=by omega
    obtain ⟨n,hn⟩:∃n,L[i]? =some n:=⟨_,List.getElem?_eq_getElem hlt⟩
    obtain ⟨b,rfl,hb,hgb⟩:=hg4 (by omega)
    have hg5:H5.get b= .cells (nts L) 3 true:=by rw [kp.2 b hb];exact hgb
    have hdr:L.drop i=n::L.drop (i+1):=by
     rw [List.drop_eq_getElem_cons hlt]
     congr 1
     exact Option.some.inj (by rw [←List.getElem?_eq_getElem hlt,hn])
    rw [hdr] at fin
    simp only [ctR] at fin
    have w1:IntKind.i64.wrap ((i:Int)+1)=((i+1:Nat):Int):=by rw [wi (by omega) (by omega)];omega
    by_cases hrn:r'.length< n
    ·have hrn':(r'.length:Int)< n:=by omega
     rw [if_pos hrn] at fin
     rw [zjM] at fin
     simp [s40_0,e9,e33,e34,e35,hlt,hlt',zac,hg5,zhL hn,zaj,hrn,hrn']
     have hne:¬z.2.length=L.sum:=fun hc=>by rw [if_pos hc] at fin;cases fin
     simp [hne,tup]
     exact fun h=>absurd h (by simp)
    ·have hrn':¬(r'.length:Int)< n:=by omega
     rw [if_neg hrn] at fin
     have hup:=fun (K:Kv) (H:Heap)=>zdt (S:=S) (e:= []) (H:=H) (K:=K) (l:=r') (k:= .i64) (b:=(n:Int))
     have hfr:=fun (K:Kv) (H:Heap)=>zbs (S:=S) (e:= []) (H:=H) (K:=K) (l:=r') (k:= .i64) (a:=(n:Int))
     have hle:(0:Int)≤(n:Int)∧(n:Int)≤(r'.length:Int):=by omega
     simp only [if_pos hle,Int.toNat_natCast] at hup hfr
     obtain ⟨v',H6,e1,hA,hn6,hk6⟩:=acc.app (bytes:=16) (new:= [.string (ofL (r'.take n))]) kp.1 (Nat.le_refl _) rfl (by unfold zag;omega)
     simp [s40_0,e9,e33,e34,e35,hlt,hlt',zac,hg5,zhL hn,zaj,hrn,hrn',hup,hfr,zaC,zaQ,zaw,cellsL,wr,zaJ,rd,e1,w1]
     exact ⟨L.length - (i+1),by omega,i+1,r'.drop n,out++ [r'.take n],by omega,rfl,by simp [ho],by rw [List.length_drop];omega,⟨by have:=kp.1;omega,fun k hk=>by rw [hk6 k (by have:=kp.1;omega) (.inl hk)];exact kp.2 k hk⟩,by
      simpa [ziV,strs,encS] using hA,fin,by simp,by simp [e33],by simp [e34],by simp⟩
   ·obtain rfl:i=L.length:=by omega
    rw [List.drop_length] at fin
    simp only [ctR] at fin
    rw [zjM] at fin
    obtain ⟨a2,c2,hv2,hsv⟩:=acc.sv (l:=out) ho.symm
    simp [s40_0,e9,e33,e34,e35]
    by_cases h6:r'= []
    ·rw [if_pos h6] at fin
     have hc:z.2.length=L.sum:=by
      by_cases hc:z.2.length=L.sum
      ·exact hc
      ·rw [if_neg hc] at fin;cases fin
     rw [if_pos hc] at fin
     simp only [List.nil_append,Prod.mk.injEq,true_and] at fin
     simp [h6,zf6,zan,hc,←fin,hv2,tup]
     exact hsv
    ·rw [if_neg h6] at fin
     have hc:¬z.2.length=L.sum:=fun hc=>by rw [if_pos hc] at fin;cases fin
     simp [h6,zf6,zan,hc,tup]
     exact fun h=>absurd h (by simp)
  ·simp [h1,tup]
   exact fun h=>absurd h (by simp)
 ·simp [h0,tup]
  exact fun h=>absurd h (by simp)
theorem znL (s:Bytes):Wf S 43 [.string (ofL s)] H fun v H'=>v= .tuple #[.int .i64 (gvN (zam s false 100)),.int .i64 (if (zam s false 100).isNone then 3 else 0)]:=by
 refine w43 rfl rfl _ ?_
 simp [s43]
 refine (zgi s).mono ?_
 rintro v H1 ⟨rfl,hH1⟩
 have r1:Rd H1 H.next s false:=by rw [hH1];exact zaf
 clear hH1
 try simp
 refine (zeI r1 100 (by omega)).mono ?_
 rintro v H2 ⟨rfl,hH2⟩
 have r2:Rd H2 H.next (grL (zam s false 100)) (zam s false 100).isNone:=by rw [hH2];exact zad (zai r1)
 clear hH2
 try simp
 refine (zbc r2).mono ?_
 rintro v H3 ⟨rfl,rfl⟩
 cases hi:zam s false 100<;>simp [gvN,tup]
end
set_option maxHeartbeats 8000000
theorem zfN {s:Bytes} {n:Nat} {p:Bytes×Bytes} (h:unS s n=some p):s.drop (s.length - p.2.length)=p.2∧p.2.length< s.length:=by
 have hn:n≤4096:=by
  by_cases hn:n≤4096
  ·exact hn
  ·unfold unS at h;rw [if_pos (by omega)] at h;cases h
 cases s with
 |nil=>unfold unS at h;rw [if_neg (by omega)] at h;cases h
 |cons k u=>
  have up:∀{q:Bytes},u.drop (u.length - q.length)=q→q.length≤u.length→(k::u).drop ((k::u).length - q.length)=q∧q.length< (k::u).length:=by
   intro q h1 h2
   refine ⟨?_,by simp;omega⟩
   rw [List.length_cons,show u.length+1 - q.length=(u.length - q.length)+1 by omega,List.drop_succ_cons,h1]
  rw [zeU hn] at h
  split at h
  ·split at h
   ·rename_i hle
    rw [zdF] at h
    split at h
    ·cases h
     refine up ?_ (by simp)
     rw [List.length_drop,show u.length - (u.length - n)=n by omega]
    ·cases h
   ·cases h
  ·split at h
   ·cases u with
    |nil=>cases h
    |cons x w=>
     simp only at h
     split at h
     ·cases h
      exact up (by simp) (by simp)
     ·cases h
   ·split at h
    ·cases hs:shD u n with
     |none=>rw [hs] at h;cases h
     |some a=>
      rw [hs] at h
      simp only [Option.bind_some] at h
      rw [zdF] at h
      split at h
      ·cases h
       obtain ⟨h1,h2⟩:=zkL hs
       exact up h1 (by omega)
      ·cases h
    ·cases h
theorem zo5 {s:Bytes} {n:Nat} {p:Bytes×Bytes} (h:shD s n=some p):p.1.length=n:=by
 unfold shD at h
 cases e1:zaz s false 4096 with
 |none=>rw [e1] at h;cases h
 |some a=>
  rw [e1] at h
  simp only [Option.bind_some] at h
  cases e2:zaz a.2 false 4096 with
  |none=>rw [e2] at h;cases h
  |some b=>
   rw [e2] at h
   simp only [Option.bind_some] at h
   cases e3:hdT a.1 with
   |none=>rw [e3] at h;cases h
   |some q=>
    rw [e3] at h
    simp only [Option.bind_some] at h
    cases e4:zcv q.2 q.1 b.1 n with
    |none=>rw [e4] at h;cases h
    |some l=>rw [e4] at h;cases h;simpa using zgt e4
theorem zeY {N M:Nat} {H:Heap} {e0:Fe} {Q:Kx} (l:Bytes) (hA:Acc 5 1 N M H (e0 6) l.length (bvs l)) (hl:l.length≤1000000) (h11:e0 11= .int .i64 0) (hgood:zcA l→∀e:Fe,e 6=e0 6→e 7=e0 7→Q (.exit 3) e H) (hbad:¬zcA l→∀e:Fe,e 4= .slice none 0 0→e 5= .int .i64 0→Q .ret e H):WL S b128_0 e0 H Q:=by
 obtain ⟨a,c,hv,hab⟩:=hA.len
 refine l128_0 S (fun d e H'=>∃i:Nat,i≤l.length∧d=l.length - i∧H'=H∧zcA (l.take i)∧e 6= .slice a l.length c∧e 6=e0 6∧e 7=e0 7∧e 11= .int .i64 i) l.length ⟨0,by omega,by omega,rfl,fun x hx=>by simp at hx,hv,rfl,rfl,by rw [h11];rfl⟩ ?_
 rintro d e H' ⟨i,hi,rfl,rfl,hall,e6,e6',e7,e11⟩
 by_cases h3:i< l.length
 ·have h3':(i:Int)< l.length:=by omega
  obtain ⟨b,rfl,hg⟩:=hab (by omega)
  obtain ⟨x,hx⟩:∃x,l[i]? =some x:=⟨_,List.getElem?_eq_getElem h3⟩
  have hbx:(bvs l)[i]? =some (bv x):=by simp [bvs,hx]
  have w1:IntKind.i64.wrap ((i:Int)+1)=(i:Int)+1:=wi (by omega) (by omega)
  by_cases h4:28≤x.toNat
  ·have h4':(28:Int)≤x.toNat:=by omega
   simp [s128_0,e6,e11,h3,h3',zac,hg,hbx,bv,h4,h4']
   exact hbad (fun hk=>by have:=hk x (List.mem_of_getElem? hx);omega) _ (by simp) (by simp)
  ·have h4':¬(28:Int)≤x.toNat:=by omega
   simp [s128_0,e6,e11,h3,h3',zac,hg,hbx,bv,h4,h4',w1]
   refine ⟨l.length - (i+1),by omega,i+1,by omega,rfl,?_,by rw [←e6',e6],e7,by omega⟩
   intro y hy
   rw [List.take_add_one,hx] at hy
   rcases List.mem_append.1 hy with hy|hy
   ·exact hall y hy
   ·simp at hy;subst hy;omega
 ·have hin:i=l.length:=by omega
  subst hin
  rw [List.take_length] at hall
  simp [s128_0,e6,e11]
  exact hgood hall _ (by simp [←e6',e6]) (by simp [e7])
section
variable {H:Heap} {s:Bytes}
theorem ziY (hs:s.length≤100000) (n:Nat) (h1:1≤n) (hn:n≤4096):Wf S 128 [.string (ofL s),.int .i64 n] H fun v H'=>Kp H.next H H'∧UnR s H v H' (unS s n):=by
 refine w128 rfl rfl _ _ ?_
 have n0:¬(n:Int)< 0:=by omega
 have n1:¬(4096:Int)< n:=by omega
 have n1':¬4096< n:=by omega
 cases s with
 |nil=>
  have hz:unS [] n=none:=by unfold unS;rw [if_neg n1']
  rw [hz]
  simp [s128,zan,zaP,UnR,tup]
  exact Kp.refl _ _
 |cons k u=>
  have hz:=zeU (k:=k) (u:=u) (n:=n) (by omega)
  have hk8:=k.toNat_lt
  have hne:((ofL (k::u)).toList==(ofL []).toList)=false:=by rw [zaP,zaP];rfl
  have hat:∀(HX:Heap) (K:Kv),run S (.idS (.c (.string (ofL (k::u)))) (.c (.int .i64 0))) [] HX K=K (bv k) HX:=fun HX K=>s_at (i:=0) rfl
  have hlen:(ofL (k::u)).size=u.length+1:=by rw [zaj];rfl
  have hdr:(k::u).drop 1=u:=rfl
  simp only [List.length_cons] at hs
  have wl:IntKind.i64.wrap (u.length:Int)=(u.length:Int):=wi (by omega) (by omega)
  by_cases k0:k.toNat=0
  ·rw [if_pos k0] at hz
   by_cases hle:n≤u.length
   ·have hle':¬(u.length:Int)< n:=by omega
    have hle'':¬u.length< n:=by omega
    rw [if_pos hle,zdF] at hz
    have wn:IntKind.i64.wrap (1+(n:Int))=((n+1:Nat):Int):=by rw [wi (by omega) (by omega)];omega
    have hsl:∀(HX:Heap) (K:Kv),run S (.slS (.c (.string (ofL (k::u)))) (some (.c (.int .i64 1))) (some (.c (.int .i64 ((n+1:Nat):Int))))) [] HX K=K (.string (ofL (u.take n))) HX:=fun HX K=>by
     rw [zdM,if_pos ⟨by omega,by omega,by simp;omega⟩,Int.toNat_natCast];rfl
    have hs2:=fun K HX=>zb4 (S:=S) (e:= []) (K:=K) (H:=HX) (l:=u.take n) (t:=5) (by unfold zag;rw [List.length_take];omega)
    have htl:(u.take n).length=n:=by rw [List.length_take];omega
    rw [htl] at hs2
    obtain ⟨N1,hN1⟩:∃N1,N1=n+1:=⟨_,rfl⟩
    rw [←hN1] at wn hsl
    simp [s128,zan,hne,n0,n1,n1',hat,bv,k0,hlen,wl,hle',hle'',wn,hsl,hs2]
    have hA:Acc 5 1 H.next (H.next+1) (H.push (.cells (bvs (u.take n)) 5 true)) (.slice (some ⟨H.next,0,none⟩) n zas) (u.take n).length (bvs (u.take n)):=by
     rw [htl]
     exact .inr ⟨H.next,zas,Nat.le_refl _,by omega,rfl,.inl rfl,zaf,by simp [bvs];omega⟩
    have hk:Kp H.next H (H.push (.cells (bvs (u.take n)) 5 true)):=Kp.push (Nat.le_refl _)
    have hkn:(H.push (.cells (bvs (u.take n)) 5 true)).next=H.next+1:=by simp
    refine zeY (N:=H.next) (M:=H.next+1) (u.take n) ?_ (by omega) (by simp) ?_ ?_
    ·simpa using hA
    ·intro hok e q6 q7
     rw [if_pos hok] at hz
     rw [hz]
     simp [q6,q7,tup,UnR]
     refine ⟨hk,_,⟨rfl,by omega⟩,?_⟩
     have:=hA.mono (M':=(H.push (.cells (bvs (u.take n)) 5 true)).next) (by omega)
     rw [htl] at this
     rw [Nat.min_eq_left hle]
     simpa using this
    ·intro hok e q4 q5
     rw [if_neg hok] at hz
     rw [hz]
     simp [q4,q5,tup,UnR]
     exact hk
   ·have hle':(u.length:Int)< n:=by omega
    have hle'':u.length< n:=by omega
    rw [if_neg hle] at hz
    rw [hz]
    simp [s128,zan,hne,n0,n1,n1',hat,bv,k0,hlen,wl,hle',hle'',UnR,tup]
    exact Kp.refl _ _
  rw [if_neg k0] at hz
  have k0':¬(k.toNat:Int)=0:=by omega
  by_cases k1:k.toNat=1
  ·rw [if_pos k1] at hz
   cases u with
   |nil=>
    have hz':unS [k] n=none:=hz
    rw [hz']
    simp [s128,zan,hne,n0,n1,n1',hat,bv,k0,k0',k1,hlen,UnR,tup]
    exact Kp.refl _ _
   |cons x w=>
    have hxl:=x.toNat_lt
    simp only at hz
    have hat1:∀(HX:Heap) (K:Kv),run S (.idS (.c (.string (ofL (k::x::w)))) (.c (.int .i64 1))) [] HX K=K (bv x) HX:=fun HX K=>s_at (i:=1) rfl
    have h2l:¬((w.length:Int)+1+1< 2):=by omega
    have hlen2:(ofL (k::x::w)).size=w.length+1+1:=by rw [zaj];rfl
    by_cases hx28:x.toNat< 28
    ·rw [if_pos hx28] at hz
     have hx28':¬(28:Int)≤x.toNat:=by omega
     have hx28'':¬28≤x.toNat:=by omega
     simp [s128,zan,hne,n0,n1,n1',hat,hat1,bv,k0,k0',k1,hlen2,h2l,hx28',hx28'']
     refine l128_1 S (fun d e H'=>∃i:Nat,i≤n∧d=n - i∧Kp H.next H H'∧Acc 5 1 H.next H'.next H' (e 6) i (bvs (List.replicate i x))∧e 0= .string (ofL (k::x::w))∧e 1= .int .i64 n∧e 8= .int .i64 i) n ⟨0,by omega,by omega,Kp.refl _ _,by simpa [bvs] using Acc.nil,by simp,by simp,by simp⟩ ?_
     rintro d e H' ⟨i,hi,rfl,hk,hA,e0,e1,e8⟩
     by_cases h3:i< n
     ·have h3':(i:Int)< n:=by omega
      have w1:IntKind.i64.wrap ((i:Int)+1)=(i:Int)+1:=wi (by omega) (by omega)
      obtain ⟨v',H5,hap,hA5,hn5,hk5⟩:=hA.app (bytes:=1) (new:= [bv x]) (by have:=hk.1;omega) (Nat.le_refl _) rfl (by unfold zag;omega)
      have hit:zaw (bv x)=false:=rfl
      have hcl:cellsL (bv x)= [bv x]:=rfl
      simp [s128_1,e0,e1,e8,h3,h3',hat1,zaC,zaQ,hit,hcl,wr,Env.ev,zaJ,rd,hap,w1]
      refine ⟨n - (i+1),by omega,i+1,by omega,rfl,?_,?_,by omega⟩
      ·exact ⟨by have:=hk.1;omega,fun k' hkk=>by rw [hk5 k' (by have:=hk.1;omega) (.inl hkk)];exact hk.2 k' hkk⟩
      ·rw [List.replicate_succ']
       simpa [bvs] using hA5
     ·have hin:i=n:=by omega
      subst hin
      simp [s128_1,e1,e8]
      have hrl:(List.replicate i x).length=i:=by simp
      refine zeY (N:=H.next) (M:=H'.next) (List.replicate i x) ?_ (by omega) (by simp) ?_ ?_
      ·rw [hrl];simpa using hA
      ·intro hok e' q6 q7
       rw [hz]
       simp [q6,q7,tup,UnR]
       refine ⟨hk,_,⟨rfl,by omega⟩,?_⟩
       simpa using hA
      ·intro hok
       exact absurd (fun y hy=>by rw [(List.mem_replicate.1 hy).2];exact hx28) hok
    ·rw [if_neg hx28] at hz
     rw [hz]
     have hx28':(28:Int)≤x.toNat:=by omega
     have hx28'':28≤x.toNat:=by omega
     simp [s128,zan,hne,n0,n1,n1',hat,hat1,bv,k0,k0',k1,hlen2,h2l,hx28',hx28'',UnR,tup]
     exact Kp.refl _ _
  rw [if_neg k1] at hz
  have k1':¬(k.toNat:Int)=1:=by omega
  by_cases k2:k.toNat=2
  ·rw [if_pos k2] at hz
   have hsf:∀(HX:Heap) (K:Kv),run S (.slS (.c (.string (ofL (k::u)))) (some (.c (.int .i64 1))) none) [] HX K=K (.string (ofL u)) HX:=fun HX K=>by
    rw [zbs,if_pos ⟨by omega,by simp;omega⟩];rfl
   simp [s128,zan,hne,n0,n1,n1',hat,bv,k0,k0',k1,k1',k2,hsf]
   refine (zlA (s:=u) (by omega) n hn).mono ?_
   rintro v H1 ⟨hk1,hv⟩
   cases hsd:shD u n with
   |none=>
    rw [hsd] at hv hz
    obtain rfl:=hv
    have hz':unS (k::u) n=none:=hz
    rw [hz']
    simp [UnR,tup]
    exact hk1
   |some p=>
    rw [hsd] at hv hz
    obtain ⟨w,rfl,hA⟩:=hv
    obtain ⟨_,hpl⟩:=zkL hsd
    simp only [Option.bind_some] at hz
    rw [zdF] at hz
    obtain ⟨kk,hkk⟩:∃kk,kk=u.length - p.2.length:=⟨_,rfl⟩
    rw [←hkk]
    have kk0:¬kk=0:=by omega
    have kk0':¬(kk:Int)=0:=by omega
    have w1:IntKind.i64.wrap (1+(kk:Int))=((kk+1:Nat):Int):=by rw [wi (by omega) (by omega)];omega
    have hplen:p.1.length≤4096:=by
     have h0:=zo5 hsd
     omega
    obtain ⟨K1,hK1⟩:∃K1,K1=kk+1:=⟨_,rfl⟩
    rw [←hK1] at w1
    simp [kk0,kk0',w1]
    refine zeY (N:=H.next) (M:=H1.next) p.1 ?_ (by omega) (by simp) ?_ ?_
    ·simpa using hA
    ·intro hok e q6 q7
     rw [if_pos hok] at hz
     rw [hz]
     simp [q6,q7,tup,UnR]
     exact ⟨hk1,_,⟨rfl,by omega⟩,hA⟩
    ·intro hok e q4 q5
     rw [if_neg hok] at hz
     rw [hz]
     simp [q4,q5,tup,UnR]
     exact hk1
  ·rw [if_neg k2] at hz
   have k2':¬(k.toNat:Int)=2:=by omega
   rw [hz]
   simp [s128,zan,hne,n0,n1,n1',hat,bv,k0,k0',k1,k1',k2,k2']
   refine zeY (N:=H.next) (M:=H.next) [] ?_ (by simp) (by simp) ?_ ?_
   ·simpa [bvs] using Acc.nil
   ·intro hok e q6 q7
    simp [q6,q7,tup,UnR]
    exact Kp.refl _ _
   ·intro hok
    exact absurd (fun x hx=>by simp at hx) hok
end
theorem zjN {S:Sys} {H:Heap} {v':Value} {t:TypeId} {z:Nat} {x:Opd} {lo hi:Option Opd} (h:∀K:Kv,run S (.slc t z x lo hi) [] H K=K v' H):kop (.slc t z x lo hi) [] H=some (v',H):=by
 have h2:run S (.slc t z x lo hi) [] H (fun x y=>x=v'∧y=H):=by rw [h];exact ⟨rfl,rfl⟩
 have h3:oT (kop (.slc t z x lo hi) [] H) (fun x y=>x=v'∧y=H):=h2
 cases hk:kop (.slc t z x lo hi) [] H with
 |none=>rw [hk] at h3;exact absurd h3 id
 |some p=>
  rw [hk] at h3
  obtain ⟨a,b⟩:=p
  obtain ⟨rfl,rfl⟩:=h3
  rfl
structure RUI (H0:Heap) (n p9:Nat) (s:Bytes) (U:Option (List Bytes×Bytes)) (d:Nat) (e:Fe) (H:Heap) (ws:List Value) (xs:List Bytes) (u:Bytes) (at_:Nat):Prop where
 hl:xs.length≤3
 hw:ws.length=xs.length
 hd:d=3 - xs.length
 hU:U=(uns n (3 - xs.length) u).map fun p=>(xs++p.1,p.2)
 hb:∀(j:Nat) (w:Value) (x:Bytes),ws[j]? =some w→xs[j]? =some x→Bw (p9+1) H w x∧x.length=n∧zcA x
 hdr:s.drop at_=u
 hat:at_≤s.length
 h0:0< at_
 e0:e 0= .string (ofL s)
 e7:e 7= .int .i64 at_
 e8:e 8= .int .i64 n
 e9:e 9= .pointer (some ⟨p9,0,none⟩)
 e10:e 10= .int .i64 xs.length
 g9:H.get p9= .cells (ws++zz (3 - xs.length)) 95 true
 kp:Kp H0.next H0 H
 np:H0.next≤p9
structure ROI (H5:Heap) (n:Nat) (t:Bytes) (Z:List (Nat×Nat×Nat)) (w9:Value) (at_ kk:Nat) (d:Nat) (e:Fe) (H:Heap) (i:Nat) (r:Rct) (a:Nat) (l:List Sqt):Prop where
 hi:i≤n
 hd:d=n - i
 hl:l.length=i
 hT:ssD t Z rc0 0=(ssD t (Z.drop i) r a).map fun y=>(l++y.1,y.2)
 ha:a≤8*t.length
 hrc:rcS r
 acc:Acc 155 3 (H5.next+1) H.next H (e 17) i (sqs l)
 bs:zb9 H5 (e 15) t a (8*t.length - a)
 g16:H.get H5.next= .cells (rcl r) 3 true
 nx:H5.next+1≤H.next
 kp:Kp H5.next H5 H
 e7:e 7= .int .i64 at_
 e8:e 8= .int .i64 n
 e9:e 9=w9
 e14:e 14= .int .i64 kk
 e16:e 16= .pointer (some ⟨H5.next,0,none⟩)
 e18:e 18= .int .i64 i
structure RII (H5 HA:Heap) (p19 n:Nat) (t:Bytes) (cs:List Nat) (a0:Nat) (w9 w17:Value) (at_ kk i:Nat) (d:Nat) (e:Fe) (H:Heap) (xs:List Nat) (a:Nat):Prop where
 hl:xs.length≤3
 hd:d=3 - xs.length
 vl:vls t (cs.take xs.length) a0=some (xs,a)
 xb:∀x∈xs,x≤65535
 ha:a≤8*t.length
 bs:zb9 H5 (e 15) t a (8*t.length - a)
 nx:H.next=HA.next
 old:∀k,k≠p19→H.get k=HA.get k
 g19:H.get p19= .cells (n3 xs) 3 true
 e7:e 7= .int .i64 at_
 e8:e 8= .int .i64 n
 e9:e 9=w9
 e14:e 14= .int .i64 kk
 e16:e 16= .pointer (some ⟨H5.next,0,none⟩)
 e17:e 17=w17
 e18:e 18= .int .i64 i
 e19:e 19= .pointer (some ⟨p19,0,none⟩)
 e20:e 20= .int .i64 xs.length
def SqR (s:Bytes) (H:Heap) (v:Value) (H':Heap):Option (List Sqt×Bytes)→Prop
 |none=>v= .tuple #[.slice none 0 0,.int .i64 0]
 |some p=>∃w,v= .tuple #[w,.int .i64 ((s.length - p.2.length:Nat):Int)]∧Acc 155 3 H.next H'.next H' w p.1.length (sqs p.1)
theorem zo6 (s:Bytes) (a:Nat) (l m:List Nat) (h:vls s l a=none):vls s (l++m) a=none:=by
 induction m generalizing l with
 |nil=>simpa using h
 |cons y m ih=>
  have:=ih (l++ [y]) (by rw [zdD,h];rfl)
  simpa using this
section
variable {H:Heap} {s:Bytes}
theorem zjO (hs:s.length≤100000) (lim:Nat) (hm:lim≤1099511627776):Wf S 87 [.string (ofL s),.int .i64 lim] H fun v H'=>Kp H.next H H'∧SqR s H v H' (zgA s lim):=by
 refine w87 rfl rfl _ _ ?_
 simp [s87]
 refine (zbK s (by omega)).mono ?_
 rintro v H1 ⟨hk1,rfl⟩
 rw [zeV]
 have hio:∀m,zam s false m=(pG 0 s).bind fun p=>if p.1≤m then some p else none:=fun m=>by simp [zam,zau]
 have hl0:¬(lim:Int)< 0:=by omega
 have wl:IntKind.u64.wrap (lim:Int)=lim:=wu64 (by omega) (by omega)
 cases hp:pG 0 s with
 |none=>
  rw [zbS hp]
  have hz:zam s false (min lim 1000)=none:=by rw [hio,hp];rfl
  rw [hz]
  simp [SqR,tup]
  exact hk1
 |some q=>
  obtain ⟨n,u⟩:=q
  obtain ⟨hdu,hul⟩:=zbU hp
  have hn64:n< 2 ^ 64:=by simpa using zd4 hp (by omega)
  have hz:zam s false (min lim 1000)=if n≤min lim 1000 then some (n,u) else none:=by rw [hio,hp];rfl
  rw [hz]
  obtain ⟨kk,hkk⟩:∃kk,kk=s.length - u.length:=⟨_,rfl⟩
  rw [zbR hp,←hkk]
  rw [←hkk] at hdu
  have hk0:¬kk=0:=by omega
  have hk0':¬(kk:Int)=0:=by omega
  by_cases h2:lim< n
  ·have h2':(lim:Int)< n:=by omega
   rw [if_neg (by omega)]
   simp [hk0,hk0',hl0,wl,h2,h2',SqR,tup]
   exact hk1
  have h2':¬(lim:Int)< n:=by omega
  by_cases h3:1000< n
  ·have h3':(1000:Int)< n:=by omega
   rw [if_neg (by omega)]
   simp [hk0,hk0',hl0,wl,h2,h2',h3,h3',SqR,tup]
   exact hk1
  have h3':¬(1000:Int)< n:=by omega
  have wn:IntKind.i64.wrap (n:Int)=n:=wi (by omega) (by omega)
  rw [if_pos (by omega)]
  simp only [Option.bind_some]
  by_cases hn0:n=0
  ·subst hn0
   have wn0:IntKind.i64.wrap 0=0:=by decide
   rw [if_pos rfl]
   simp [hk0,hk0',hl0,wl,wn0,SqR,tup,sqs]
   exact ⟨hk1,_,⟨rfl,by omega⟩,Acc.nil⟩
  have hn0':¬(n:Int)=0:=by omega
  rw [if_neg hn0]
  simp [hk0,hk0',hl0,wl,h2,h2',h3,h3',wn,hn0,hn0']
  obtain ⟨U,hU⟩:∃U,U=uns n 3 u:=⟨_,rfl⟩
  rw [←hU]
  have g9:(H1.push (.cells [.slice none 0 0,.slice none 0 0,.slice none 0 0] 95 true)).get H1.next= .cells [.slice none 0 0,.slice none 0 0,.slice none 0 0] 95 true:=zaf
  have hk2:Kp H.next H (H1.push (.cells [.slice none 0 0,.slice none 0 0,.slice none 0 0] 95 true)):=hk1.trans (Kp.push hk1.1)
  obtain ⟨H2,hH2⟩:∃H2,H2=H1.push (.cells [.slice none 0 0,.slice none 0 0,.slice none 0 0] 95 true):=⟨_,rfl⟩
  rw [←hH2] at g9 hk2⊢
  refine l87_1 S (fun d e HH=>∃ws xs u' at_,RUI H n H1.next s U d e HH ws xs u' at_) 3 ⟨[],[],u,kk,⟨by simp,rfl,by simp,?_,fun j w x hj=>by simp at hj,hdu,by omega,by omega,by simp,by simp,by simp,by simp,by simp,g9,hk2,hk1.1⟩⟩ ?_
  ·rw [hU];simp
  rintro d e H' ⟨ws,xs,u',at_,I⟩
  have i0:=I.e0
  have i7:=I.e7
  have i8:=I.e8
  have i9:=I.e9
  have i10:=I.e10
  have hl:=I.hl
  have hwl:=I.hw
  have hdd:=I.hd
  have hdr:=I.hdr
  have hat:=I.hat
  have hat0:=I.h0
  have hu'l:u'.length=s.length - at_:=by rw [←hdr,List.length_drop]
  have kp:=I.kp
  have np:=I.np
  have hsf:∀(HX:Heap) (K:Kv),run S (.slS (.c (.string (ofL s))) (some (.c (.int .i64 (at_:Int)))) none) [] HX K=K (.string (ofL u')) HX:=fun HX K=>by
   rw [zbs,if_pos ⟨by omega,by omega⟩,Int.toNat_natCast,hdr]
  by_cases h3:xs.length< 3
  ·have e32:3 - xs.length=(2 - xs.length)+1:=by clear I i0 i7 i8 i9 i10 hwl;omega
   have h3':(xs.length:Int)< 3:=by omega
   have w1:IntKind.i64.wrap ((xs.length:Int)+1)=(xs.length:Int)+1:=wi (by omega) (by omega)
   simp [s87_1,i0,i7,i8,i10,h3,h3',hsf]
   refine (ziY (s:=u') (by omega) n (by omega) (by omega)).mono ?_
   rintro v H3 ⟨hk3,hv⟩
   have kp3:Kp H.next H H3:=kp.trans (hk3.mono kp.1)
   have hUn:=I.hU
   rw [show 3 - xs.length=(3 - (xs.length+1))+1 by omega] at hUn
   simp only [uns] at hUn
   cases hun:unS u' n with
   |none=>
    rw [hun] at hv hUn
    obtain rfl:=hv
    have hz:U=none:=by rw [hUn];rfl
    rw [hz]
    simp [tup,SqR]
    exact kp3
   |some a=>
    rw [hun] at hv hUn
    obtain ⟨w,rfl,hacc⟩:=hv
    obtain ⟨q1,q2,q3⟩:=zeW hun
    obtain ⟨x1,x2⟩:=zfN hun
    simp only [Option.bind_some] at hUn
    have hbw:=hacc.bw
    have nx3:=hk3.1
    have p9lt:H1.next< H'.next:=zai I.g9
    have g3:H3.get H1.next= .cells (ws++zz (3 - xs.length)) 95 true:=by rw [hk3.2 _ p9lt];exact I.g9
    obtain ⟨m,hm2⟩:∃m,m=u'.length - a.2.length:=⟨_,rfl⟩
    rw [←hm2] at x1⊢
    have hm0:¬m=0:=by omega
    have hm0':¬(m:Int)=0:=by omega
    obtain ⟨A2,hA2⟩:∃A2,A2=at_+m:=⟨_,rfl⟩
    have w2:IntKind.i64.wrap ((at_:Int)+m)=(A2:Int):=by rw [wi (by omega) (by omega)];omega
    obtain ⟨wa,wc,rfl,_⟩:=id hbw
    obtain ⟨w,hw⟩:∃w:Value,w= .slice wa a.1.length wc:=⟨_,rfl⟩
    have hone:zaB w=true:=by rw [hw];rfl
    have hset:(ws++zz (3 - xs.length)).set xs.length w=(ws++ [w])++zz (2 - xs.length):=by
     unfold zz
     rw [e32,List.replicate_succ,←hwl,List.set_append_right _ _ (Nat.le_refl _)]
     simp
    have hlen:xs.length< ws.length+(3 - xs.length):=by rw [hwl,Nat.add_sub_cancel' hl];exact h3
    rw [←hw] at hbw⊢
    simp [hm0,hm0',i0,i7,i8,i9,i10,zac,h3,h3',kSt,g3,hlen,hone,hset,w1,w2]
    have gp:∀k,k≠H1.next→(H3.put H1.next (.cells ((ws++ [w])++zz (2 - xs.length)) 95 true)).get k=H3.get k:=fun k hk=>zaa hk
    have gs:(H3.put H1.next (.cells ((ws++ [w])++zz (2 - xs.length)) 95 true)).get H1.next= .cells ((ws++ [w])++zz (2 - xs.length)) 95 true:=zad (by omega)
    have hnp:(H3.put H1.next (.cells ((ws++ [w])++zz (2 - xs.length)) 95 true)).next=H3.next:=next_put
    rw [List.append_assoc,List.singleton_append] at gp gs hnp
    obtain ⟨H4,hH4⟩:∃H4,H4=H3.put H1.next (.cells (ws++w::zz (2 - xs.length)) 95 true):=⟨_,rfl⟩
    rw [←hH4] at gp gs hnp⊢
    refine ⟨3 - (xs.length+1),by omega,ws++ [w],xs++ [a.1],a.2,A2,⟨by simp;omega,by simp;omega,by simp,?_,?_,?_,by omega,by omega,by simp [i0],by simp,by simp [i8],by simp [i9],by simp,?_,?_,np⟩⟩
    ·rw [hUn,List.length_append]
     simp only [List.length_cons,List.length_nil,Option.map_map]
     congr 1
     funext r
     simp
    ·intro j w' x' h1 h2
     by_cases hj:j< xs.length
     ·rw [List.getElem?_append_left (by omega)] at h1
      rw [List.getElem?_append_left hj] at h2
      obtain ⟨b1,b2⟩:=I.hb j w' x' h1 h2
      exact ⟨b1.kp (fun k h1 h2=>by rw [gp k (by omega),hk3.2 k h2]) (by omega),b2⟩
     ·have hj2:j=xs.length:=by have:=(List.getElem?_eq_some_iff.1 h2).1;simp at this;omega
      subst hj2
      rw [List.getElem?_append_right (by omega),hwl,Nat.sub_self] at h1
      rw [List.getElem?_append_right (by omega),Nat.sub_self] at h2
      simp at h1 h2
      subst h1 h2
      exact ⟨(hbw.mono (N':=H1.next+1) (by omega)).kp (fun k h1 h2=>gp k (by omega)) (by omega),q1,q2⟩
    ·rw [hA2,←List.drop_drop,hdr];exact x1
    ·rw [gs,show 3 - (xs++ [a.1]).length=2 - xs.length by simp];simp
    ·exact ⟨by have:=kp3.1;omega,fun k hk=>by rw [gp k (by omega)];exact kp3.2 k hk⟩
  ·have h5:xs.length=3:=by omega
   obtain ⟨x0,x1,x2,rfl⟩:∃x0 x1 x2,xs= [x0,x1,x2]:=by
    match xs,h5 with
    | [x,y,z],_=>exact ⟨x,y,z,rfl⟩
   obtain ⟨w0,w1,w2,rfl⟩:∃w0 w1 w2,ws= [w0,w1,w2]:=by
    match ws,hwl with
    | [x,y,z],_=>exact ⟨x,y,z,rfl⟩
   have hUs:U=some ([x0,x1,x2],u'):=by have:=I.hU;simpa [uns] using this
   have g9':H'.get H1.next= .cells [w0,w1,w2] 95 true:=by have:=I.g9;simpa [zz] using this
   obtain ⟨bw0,n0,k0⟩:=I.hb 0 w0 x0 rfl rfl
   obtain ⟨bw1,n1,k1⟩:=I.hb 1 w1 x1 rfl rfl
   obtain ⟨bw2,n2,k2⟩:=I.hb 2 w2 x2 rfl rfl
   have nx:=kp.1
   have p9lt:H1.next< H'.next:=zai g9'
   rw [hUs]
   simp only [Option.bind_some,z3l,sqT]
   simp [s87_1,i0,i7,i10,hsf]
   refine (zfh (s:=u') (by omega)).mono ?_
   rintro v H3 ⟨hk3,hv⟩
   have kp3:Kp H.next H H3:=kp.trans (hk3.mono kp.1)
   cases ht:zaz u' false 4096 with
   |none=>
    rw [ht] at hv
    obtain rfl:=hv
    simp [tup,SqR]
    exact kp3
   |some q=>
    rw [ht] at hv
    obtain rfl:=hv
    obtain ⟨t,z⟩:=q
    obtain ⟨b1',b2'⟩:=zdc ht
    have l1:=zbT ht
    simp only at l1 b1' b2'
    obtain ⟨k2',hk2e⟩:∃k2,k2=u'.length - z.length:=⟨_,rfl⟩
    rw [←hk2e]
    have k20:¬k2'=0:=by omega
    have k20':¬(k2':Int)=0:=by omega
    have hs2:=fun K=>zb4 (S:=S) (e:= []) (K:=K) (H:=H3) (l:=t) (t:=5) (by unfold zag;omega)
    simp only [Option.bind_some]
    simp [k20,k20',hs2]
    obtain ⟨H4,hH4⟩:∃H4,H4=H3.push (.cells (bvs t) 5 true):=⟨_,rfl⟩
    have g4:H4.get H3.next= .cells (bvs t) 5 true:=by rw [hH4];exact zaf
    have hk4:Kp H3.next H3 H4:=by rw [hH4];exact Kp.push (Nat.le_refl _)
    rw [←hH4]
    refine (zhE (H:=H4) (a:=some ⟨H3.next,0,none⟩) (c:=zas) (fun _=>⟨_,rfl,g4⟩) (by omega)).mono ?_
    rintro vB H5 ⟨hk5,hA5⟩
    have hB:=hA5.bitS
    have nn3:=hk3.1
    have n4:=hk4.1
    have n5:=hk5.1
    have k35:Kp H'.next H' H5:=(hk3.trans (hk4.mono hk3.1)).trans (hk5.mono (by omega))
    have kp5:Kp H.next H H5:=kp.trans (k35.mono kp.1)
    have n35:=k35.1
    have g95:H5.get H1.next= .cells [w0,w1,w2] 95 true:=by rw [k35.2 _ p9lt];exact g9'
    obtain ⟨c0,o0,q0,rfl,a0,b0,ld0⟩:=bw0.lds (by omega)
    obtain ⟨c1,o1,q1,rfl,a1,b1,ld1⟩:=bw1.lds (by omega)
    obtain ⟨c2,o2,q2,rfl,a2,b2,ld2⟩:=bw2.lds (by omega)
    rw [n0,n1,n2] at g95
    obtain ⟨Z,hZ⟩:∃Z,Z=z3 x0 x1 x2:=⟨_,rfl⟩
    have hZl:Z.length=n:=by rw [hZ];exact z3_len n0 n1 n2
    rw [←hZ]
    have gl:(H5.push (.cells [.int .i64 0,.int .i64 0,.int .i64 0] 3 true)).get H5.next= .cells [.int .i64 0,.int .i64 0,.int .i64 0] 3 true:=zaf
    obtain ⟨H6,hH6⟩:∃H6,H6=H5.push (.cells (rcl rc0) 3 true):=⟨_,rfl⟩
    have g66:H6.get H5.next= .cells (rcl rc0) 3 true:=by rw [hH6];exact zaf
    have n6:H6.next=H5.next+1:=by rw [hH6];simp
    have k6:Kp H5.next H5 H6:=by rw [hH6];exact Kp.push (Nat.le_refl _)
    simp [zaC,zaQ,zaw,cellsL,wr,Env.ev,zaW]
    have hH6':H5.push (.cells [.int .i64 1,.int .i64 2,.int .i64 4] 3 true)=H6:=hH6.symm
    rw [hH6']
    refine l87_0 S (fun d e HH=>∃i r a l,ROI H5 n t Z (.pointer (some ⟨H1.next,0,none⟩)) at_ k2' d e HH i r a l) n ⟨0,rc0,0,[],⟨by omega,by omega,rfl,by simp,by omega,⟨⟨by decide,by decide⟩,⟨by decide,by decide⟩,⟨by decide,by decide⟩⟩,?_,by simpa using hB,g66,by omega,k6,by simp [i7],by simp [i8],by simp [i9],by simp,by simp,by simp⟩⟩ ?_
    ·simp only [sqs,List.flatMap_nil];simp;exact Acc.nil
    rintro d e H9 ⟨i,r,a,l,J⟩
    have j7:=J.e7
    have j8:=J.e8
    have j9:=J.e9
    have j14:=J.e14
    have j16:=J.e16
    have j18:=J.e18
    have nx9:=J.nx
    have kp9:=J.kp
    have hi:=J.hi
    have hjd:=J.hd
    have kpH:Kp H.next H H9:=kp5.trans (kp9.mono (by omega))
    by_cases h6:i< n
    ·have h6':(i:Int)< n:=by omega
     obtain ⟨y0,hy0⟩:∃y,x0[i]? =some y:=⟨_,List.getElem?_eq_getElem (by omega)⟩
     obtain ⟨y1,hy1⟩:∃y,x1[i]? =some y:=⟨_,List.getElem?_eq_getElem (by omega)⟩
     obtain ⟨y2,hy2⟩:∃y,x2[i]? =some y:=⟨_,List.getElem?_eq_getElem (by omega)⟩
     have hdrop:Z.drop i=(y0.toNat,y1.toNat,y2.toNat)::Z.drop (i+1):=by
      have hz3:=z3_get hy0 hy1 hy2
      rw [←hZ] at hz3
      obtain ⟨g1,g2⟩:=List.getElem?_eq_some_iff.1 hz3
      rw [List.drop_eq_getElem_cons g1,g2]
     have k0':=k0 y0 (List.mem_of_getElem? hy0)
     have k1':=k1 y1 (List.mem_of_getElem? hy1)
     have k2'':=k2 y2 (List.mem_of_getElem? hy2)
     obtain ⟨cs,hcs⟩:∃cs,cs= [y0.toNat,y1.toNat,y2.toNat]:=⟨_,rfl⟩
     have hcl:cs.length=3:=by rw [hcs];rfl
     have hcb:∀(i:Nat) c,cs[i]? =some c→c≤27:=by
      intro i c hi
      have:=List.mem_of_getElem? hi
      rw [hcs] at this
      simp at this
      rcases this with rfl|rfl|rfl<;>omega
     obtain ⟨HA,hHA⟩:∃HA,HA=H9.push (.cells [.int .i64 0,.int .i64 0,.int .i64 0] 3 true):=⟨_,rfl⟩
     have gA:HA.get H9.next= .cells (n3 []) 3 true:=by rw [hHA];exact zaf
     have nA:HA.next=H9.next+1:=by rw [hHA];simp
     have oA:∀k,k< H9.next→HA.get k=H9.get k:=fun k hk=>by rw [hHA,zae hk]
     have hST:stD t (y0.toNat,y1.toNat,y2.toNat) r a=(vls t cs a).bind fun x=>match x.1 with
      | [l,m,n]=>(rcO r n).map fun o=>(⟨l,m+3,o⟩,rcB r o,x.2)
      |_=>none:=by rw [hcs];exact zhB t _ _ _ r a
     have o9:∀X:Heap,(∀k,k< H9.next→X.get k=H9.get k)→X.get H1.next= .cells [.slice (some ⟨c0,o0,none⟩) n q0,.slice (some ⟨c1,o1,none⟩) n q1,.slice (some ⟨c2,o2,none⟩) n q2] 95 true∧kLd X (.pointer (some ⟨c0,o0+i,none⟩))=some (.int .u8 (y0.toNat:Nat))∧kLd X (.pointer (some ⟨c1,o1+i,none⟩))=some (.int .u8 (y1.toNat:Nat))∧kLd X (.pointer (some ⟨c2,o2+i,none⟩))=some (.int .u8 (y2.toNat:Nat)):=by
      intro X hX
      refine ⟨?_,ld0 X ?_ i y0 hy0,ld1 X ?_ i y1 hy1,ld2 X ?_ i y2 hy2⟩
      ·rw [hX _ (by omega),kp9.2 _ (by omega)];exact g95
      ·rw [hX _ (by omega),kp9.2 _ (by omega),k35.2 _ (by omega)]
      ·rw [hX _ (by omega),kp9.2 _ (by omega),k35.2 _ (by omega)]
      ·rw [hX _ (by omega),kp9.2 _ (by omega),k35.2 _ (by omega)]
     simp [s87_0,j8,j18,h6,h6']
     rw [←hHA]
     obtain ⟨w17,hw17⟩:∃w,w=e 17:=⟨_,rfl⟩
     have hk59:∀{X:Heap},X.next=HA.next→(∀k,k≠H9.next→X.get k=HA.get k)→Kp H5.next H5 X:=fun h1 h2=>⟨by omega,fun k hk=>by rw [h2 k (by omega),oA k (by omega)];exact kp9.2 k hk⟩
     refine l87_2 S (fun d e HH=>∃xs a',RII H5 HA H9.next n t cs a (.pointer (some ⟨H1.next,0,none⟩)) w17 at_ k2' i d e HH xs a') 3 ⟨[],a,⟨by simp,by simp,rfl,by simp,J.ha,by simpa using J.bs,rfl,fun k _=>rfl,gA,by simp [j7],by simp [j8],by simp [j9],by simp [j14],by simp [j16],by simp [hw17],by simp [j18],by simp,by simp⟩⟩ ?_
     rintro d2 e2 HX ⟨xs,a',K⟩
     obtain ⟨hl2,hd2,hvl,hxb,ha',hbs,hnx,hold,g19,t7,t8,t9,t14,t16,t17,t18,t19,t20⟩:=K
     have oX:∀k,k< H9.next→HX.get k=H9.get k:=fun k hk=>by rw [hold k (by omega),oA k hk]
     obtain ⟨X9,X0,X1,X2⟩:=o9 HX oX
     have hkX:=hk59 hnx hold
     have kpX:Kp H.next H HX:=kp5.trans (hkX.mono (by omega))
     obtain ⟨ba,bc,hbv⟩:=hbs.len
     obtain ⟨L8,hL8⟩:∃L,L=8*t.length - a':=⟨_,rfl⟩
     rw [←hL8] at hbs hbv
     have hlw:∀(HY:Heap) (K:Kv),run S (.lenL (.c (e2 15))) [] HY K=K (.int .i64 L8) HY:=fun HY K=>by rw [hbv];simp
     by_cases h7:xs.length< 3
     ·obtain ⟨c,hc⟩:∃c,cs[xs.length]? =some c:=⟨_,List.getElem?_eq_getElem (by omega)⟩
      have hc27:=hcb _ _ hc
      have h7':(xs.length:Int)< 3:=by omega
      have htk:cs.take (xs.length+1)=cs.take xs.length++ [c]:=by rw [List.take_add_one,hc];rfl
      have hvs:=zdD t c (cs.take xs.length) a
      rw [←htk,hvl] at hvs
      simp only [Option.bind_some] at hvs
      have hpre:∀(Q:Kx) (e':Fe) (HY:Heap),True:=fun _ _ _=>trivial
      obtain ⟨cb,co,cq,hcell,hld,hoff⟩:∃cb co cq,([.slice (some ⟨c0,o0,none⟩) n q0,.slice (some ⟨c1,o1,none⟩) n q1,.slice (some ⟨c2,o2,none⟩) n q2]:List Value)[xs.length]? =some (.slice (some ⟨cb,co,none⟩) n cq)∧kLd HX (.pointer (some ⟨cb,co+i,none⟩))=some (.int .u8 (c:Nat))∧True:=by
       match hx:xs.length,h7 with
       |0,_=>rw [hx,hcs] at hc;simp at hc;subst hc;exact ⟨_,_,_,rfl,X0,trivial⟩
       |1,_=>rw [hx,hcs] at hc;simp at hc;subst hc;exact ⟨_,_,_,rfl,X1,trivial⟩
       |2,_=>rw [hx,hcs] at hc;simp at hc;subst hc;exact ⟨_,_,_,rfl,X2,trivial⟩
      obtain ⟨SL,hSL⟩:∃SL:List Value,SL= [.slice (some ⟨c0,o0,none⟩) n q0,.slice (some ⟨c1,o1,none⟩) n q1,.slice (some ⟨c2,o2,none⟩) n q2]:=⟨_,rfl⟩
      rw [←hSL] at X9 hcell
      have wc:IntKind.i64.wrap (c:Int)=c:=wi (by omega) (by omega)
      have hcd:cdN c≤15:=by unfold cdN;split<;>omega
      simp [s87_2,t7,t8,t9,t14,t16,t17,t18,t19,t20,h7,h7',zac,X9,hcell,h6,h6',hld,wc]
      refine (znI c hc27).mono ?_
      rintro v4 HY ⟨hY,rfl⟩
      rw [hY]
      obtain ⟨E,hE⟩:∃E,E=cdN c:=⟨_,rfl⟩
      rw [←hE] at hcd⊢
      have hvld:vlD t c a'=if E≤L8 then some (cdV c (zax t a' E),a'+E) else none:=by unfold vlD;rw [←hE,←hL8]
      by_cases h8:E≤L8
      ·rw [if_pos h8] at hvld
       have h8':¬(L8:Int)< E:=by omega
       have h8'':¬L8< E:=by omega
       rw [hvld] at hvs
       simp only [Option.map_some] at hvs
       have hn3l:xs.length< (n3 xs).length:=by rw [n3_len hl2];exact h7
       have w1':IntKind.i64.wrap ((xs.length:Int)+1)=(xs.length:Int)+1:=wi (by omega) (by omega)
       obtain ⟨vf,hvf,hrunf⟩:=hbs.from (S:=S) (i:=E) h8
       have hrf:∀(HY:Heap),Kp H5.next H5 HY→∀K:Kv,run S (.slc 3 1 (.c (e2 15)) (some (.c (.int .i64 E))) none) [] HY K=K vf HY:=fun HY hk K=>hrunf HY hk K
       have bl19:=zai g19
       obtain ⟨H10,hH10⟩:∃H10,H10=HX.put H9.next (.cells ((n3 xs).set xs.length (.int .i64 (c:Int))) 3 true):=⟨_,rfl⟩
       have g10:H10.get H9.next= .cells ((n3 xs).set xs.length (.int .i64 (c:Int))) 3 true:=by rw [hH10];exact zad bl19
       have n10:H10.next=HX.next:=by rw [hH10];exact next_put
       have hk10:Kp H5.next H5 H10:=by rw [hH10];exact hkX.trans (Kp.put (by omega))
       have hfin:∀(x:Nat) (HZ:Heap),x=cdV c (zax t a' E)→HZ=HX.put H9.next (.cells (n3 (xs++ [x])) 3 true)→∀e':Fe,e' 7= .int .i64 at_→e' 8= .int .i64 n→e' 9= .pointer (some ⟨H1.next,0,none⟩)→e' 14= .int .i64 k2'→e' 16= .pointer (some ⟨H5.next,0,none⟩)→e' 17=w17→e' 18= .int .i64 i→e' 19= .pointer (some ⟨H9.next,0,none⟩)→e' 20= .int .i64 ((xs.length:Int)+1)→e' 15=vf→∃d',d'< d2∧∃xs a',RII H5 HA H9.next n t cs a (.pointer (some ⟨H1.next,0,none⟩)) w17 at_ k2' i d' e' HZ xs a':=by
        rintro x HZ rfl rfl e' f7 f8 f9 f14 f16 f17 f18 f19 f20 f15
        have hx16:cdV c (zax t a' E)≤65535:=znf hc27 (by rw [←hE];exact za6 _ _ _)
        refine ⟨3 - (xs.length+1),by omega,xs++ [cdV c (zax t a' E)],a'+E,⟨by simp;omega,by simp,?_,?_,by omega,?_,by rw [next_put];exact hnx,fun k hk=>by rw [zaa hk];exact hold k hk,zad bl19,f7,f8,f9,f14,f16,f17,f18,f19,?_⟩⟩
        ·rw [List.length_append];simpa using hvs
        ·intro y hy
         rcases List.mem_append.1 hy with h|h
         ·exact hxb y h
         ·simp at h;rw [h];exact hx16
        ·rw [f15]
         have:8*t.length - (a'+E)=L8 - E:=by omega
         rw [this];exact hvf
        ·rw [f20];simp
       by_cases h9:c< 16
       ·have h9':¬(16:Int)≤c:=by omega
        have h9'':¬16≤c:=by omega
        have hcv:cdV c (zax t a' E)=c:=by unfold cdV;rw [if_pos h9]
        have hst:=n3_step h7 c
        simp [hlw,h8',h8'',kSt,g19,hn3l,zaB,←hH10,t7,t8,t9,t14,t16,t17,t18,t19,t20,h9',h9'',hrf H10 hk10,w1',zac,h7,h7']
        refine hfin c H10 hcv.symm (by rw [hH10,hst]) _ ?_ ?_ ?_ ?_ ?_ ?_ ?_ ?_ ?_ ?_
        all_goals simp [t7,t8,t9,t14,t16,t17,t18,t19]
       ·have h9':(16:Int)≤c:=by omega
        have h9'':16≤c:=by omega
        have hE12:E=c - 12:=by rw [hE];unfold cdN;rw [if_neg h9]
        obtain ⟨M,hM⟩:∃M,M=zax t a' E:=⟨_,rfl⟩
        have hcv:cdV c (zax t a' E)=2 ^ E+M:=by unfold cdV;rw [if_neg h9,hM,hE12]
        have hMl:=za6 t a' E
        rw [←hM] at hMl
        have pE:2 ^ E≤2 ^ 15:=Nat.pow_le_pow_right (by omega) hcd
        have e15:(2:Nat) ^ 15=32768:=by decide
        have hst:=n3_step h7 (2 ^ E+M)
        obtain ⟨P2,hP2⟩:∃P2,P2=2 ^ E:=⟨_,rfl⟩
        have hp2E:p2 E=(P2:Int):=by rw [hP2];unfold p2;exact_mod_cast rfl
        rw [←hP2] at pE hMl hst hcv
        obtain ⟨va,hva,hruna⟩:=hbs.upto (S:=S) (j:=E) h8
        have hra:∀(HY:Heap),Kp H5.next H5 HY→∀K:Kv,run S (.slc 3 1 (.c (e2 15)) none (some (.c (.int .i64 E)))) [] HY K=K va HY:=fun HY hk K=>hruna HY hk K
        obtain ⟨vaa,vac,rfl⟩:=hva.len
        have hkop:=zjN (hra H10 hk10)
        simp [hlw,h8',h8'',kSt,g19,hn3l,zaB,←hH10,t7,t8,t9,t14,t16,t17,t18,t19,t20,h9',h9'',hra H10 hk10,w1',zac,h7,h7']
        refine (zcw H10 E (by omega)).mono ?_
        rintro v5 HW ⟨hW,rfl⟩
        rw [hW,hp2E]
        rw [hkop,zkH]
        try simp
        refine (zcR (hva.kp hk10) (by omega)).mono ?_
        rintro v6 HV ⟨hV,rfl⟩
        rw [hV,←hM]
        have x1:IntKind.i64.wrap (M:Int)=M:=wi (by omega) (by omega)
        have x2:IntKind.i64.wrap ((P2:Int)+M)=((P2+M:Nat):Int):=by rw [wi (by omega) (by omega)];omega
        obtain ⟨PM,hPM⟩:∃PM,PM=P2+M:=⟨_,rfl⟩
        rw [←hPM] at x2 hst hcv
        obtain ⟨H11,hH11⟩:∃H11,H11=H10.put H9.next (.cells (n3 (xs++ [PM])) 3 true):=⟨_,rfl⟩
        have hk11:Kp H5.next H5 H11:=by rw [hH11];exact hk10.trans (Kp.put (by omega))
        have hss:((n3 xs).set xs.length (.int .i64 (c:Int))).set xs.length (.int .i64 (PM:Int))=n3 (xs++ [PM]):=by rw [List.set_set,hst]
        simp [x1,x2,t7,t8,t9,t14,t16,t17,t18,t19,t20,zac,h7,h7',kSt,g10,hn3l,zaB,hst,←hH11,hrf H11 hk11,w1']
        refine hfin PM H11 hcv.symm (by rw [hH11,hH10,zbi]) _ ?_ ?_ ?_ ?_ ?_ ?_ ?_ ?_ ?_ ?_
        all_goals simp [t7,t8,t9,t14,t16,t17,t18,t19]
      ·rw [if_neg h8] at hvld
       have h8':(L8:Int)< E:=by omega
       have h8'':L8< E:=by omega
       rw [hvld] at hvs
       have hsn:stD t (y0.toNat,y1.toNat,y2.toNat) r a=none:=by
        rw [hST]
        have h4:=zo6 t a (cs.take (xs.length+1)) (cs.drop (xs.length+1)) hvs
        rw [List.take_append_drop] at h4
        rw [h4];rfl
       have hz:ssD t Z rc0 0=none:=by rw [J.hT,hdrop];simp only [ssD,hsn];rfl
       rw [hz]
       simp [hlw,h8',h8'',SqR,tup]
       exact kpX
     ·have h7e:xs.length=3:=by omega
      obtain ⟨l1,m1,nn,rfl⟩:∃l m n,xs= [l,m,n]:=by
       match xs,h7e with
       | [l,m,n],_=>exact ⟨l,m,n,rfl⟩
      have hl1:=hxb l1 (by simp)
      have hm1:=hxb m1 (by simp)
      have hnn:=hxb nn (by simp)
      have hvl2:vls t cs a=some ([l1,m1,nn],a'):=by
       rw [show cs.take [l1,m1,nn].length=cs from List.take_of_length_le (by rw [hcl];simp)] at hvl;exact hvl
      have hst:stD t (y0.toNat,y1.toNat,y2.toNat) r a=(rcO r nn).map fun o=>(⟨l1,m1+3,o⟩,rcB r o,a'):=by
       rw [hST,hvl2];rfl
      have g19':HX.get H9.next= .cells [.int .i64 (l1:Nat),.int .i64 (m1:Nat),.int .i64 (nn:Nat)] 3 true:=g19
      have g16X:HX.get H5.next= .cells (rcl r) 3 true:=by rw [oX _ (by omega)];exact J.g16
      have hrl:(rcl r).length=3:=rfl
      have hrt:(rcl r).take 3=rcl r:=rfl
      have hO:=zly (H:=HX) r nn (by omega)
      have hrv:rcv r= .agg (rcl r).toArray:=rfl
      rw [hrv] at hO
      simp [s87_2,t20,t16,t19,zac,zaM,g16X,rd,hrl,hrt,g19']
      refine hO.mono ?_
      rintro v4 HY ⟨hkY,rfl⟩
      have nY:=hkY.1
      have kY:Kp H.next H HY:=kpX.trans (hkY.mono (by omega))
      cases ho:rcO r nn with
      |none=>
       have hz:ssD t Z rc0 0=none:=by rw [J.hT,hdrop];simp only [ssD,hst,ho];rfl
       rw [hz]
       simp [SqR,tup]
       exact kY
      |some o=>
       have ho1:1≤o∧o≤65533:=by
        unfold rcO at ho
        split at ho
        ·rename_i hc;cases ho;exact ⟨hc.1,hc.2.1⟩
        ·cases ho
       have ho0:¬o=0:=by omega
       have g16Y:HY.get H5.next= .cells (rcl r) 3 true:=by rw [hkY.2 _ (by omega)];exact g16X
       have hBh:=zlz (H:=HY) r o
       rw [hrv] at hBh
       simp [ho0,t16,zaM,g16Y,rd,hrl,hrt]
       refine hBh.mono ?_
       rintro v5 HZ ⟨hkZ,rfl⟩
       have nZ:=hkZ.1
       have hrq:rcv (rcB r o)= .agg (rcl (rcB r o)).toArray:=rfl
       have hrl3:(rcl (rcB r o)).length=3:=rfl
       have hrt3:(rcl (rcB r o)).take 3=rcl (rcB r o):=rfl
       have hrd3:(rcl r).drop 3= []:=rfl
       have oZ:∀k,k< HX.next→HZ.get k=HX.get k:=fun k hk=>by rw [hkZ.2 _ (by omega),hkY.2 _ hk]
       have g16Z:HZ.get H5.next= .cells (rcl r) 3 true:=by rw [oZ _ (by omega)];exact g16X
       obtain ⟨HW,hHW⟩:∃HW,HW=HZ.put H5.next (.cells (rcl (rcB r o)) 3 true):=⟨_,rfl⟩
       have g16W:HW.get H5.next= .cells (rcl (rcB r o)) 3 true:=by rw [hHW];exact zad (by omega)
       have g19W:HW.get H9.next= .cells [.int .i64 (l1:Nat),.int .i64 (m1:Nat),.int .i64 (nn:Nat)] 3 true:=by rw [hHW,zaa (by omega),oZ _ (by omega)];exact g19'
       have nW:HW.next=HZ.next:=by rw [hHW];exact next_put
       have oW:∀k,k≠H5.next→k< H9.next→HW.get k=H9.get k:=fun k h1 h2=>by rw [hHW,zaa h1,oZ _ (by omega),oX _ h2]
       have accW:Acc 155 3 (H5.next+1) H9.next HW w17 i (sqs l):=by rw [hw17];exact J.acc.kp fun k h1 h2=>oW k (by omega) h2
       obtain ⟨q,hq⟩:∃q:List Value,q= [.int .i64 (l1:Nat),.int .i64 ((m1:Int)+3),.int .i64 o]:=⟨_,rfl⟩
       have hql:q.length=3:=by rw [hq];rfl
       have hqt:q.take 3=q:=List.take_of_length_le (by omega)
       obtain ⟨v',HE,hap,accE,nE,oE⟩:=accW.app (bytes:=24) (new:=q) (by omega) (by omega) hql (by unfold zag;omega)
       have wm:IntKind.i64.wrap ((m1:Int)+3)=(m1:Int)+3:=wi (by omega) (by omega)
       have w1':IntKind.i64.wrap ((i:Int)+1)=(i:Int)+1:=wi (by omega) (by omega)
       rw [hrq]
       simp [t16,t17,t18,t19,zaW,g16Z,wr,hrl,hrl3,hrd3,←hHW,zac,g19W,wm,zaC,zaQ,zaw,cellsL,Env.ev,w1']
       rw [←hq]
       simp [zaJ,rd,hql,hqt,hap,w1',t18]
       refine ⟨n - (i+1),by omega,i+1,rcB r o,a',l++ [⟨l1,m1+3,o⟩],⟨by omega,rfl,by rw [List.length_append,J.hl];rfl,?_,ha',ziR J.hrc ho,?_,?_,?_,by omega,?_,by simp [t7],by simp [t8],by simp [t9],by simp [t14],by simp [t16],by simp⟩⟩
       ·rw [J.hT,hdrop]
        simp only [ssD,hst,ho,Option.map_some,Option.bind_some,Option.map_map]
        congr 1
        funext y
        simp
       ·have e1:sqs (l++ [⟨l1,m1+3,o⟩])=sqs l++q:=by rw [hq];simp [sqs]
        rw [e1]
        simpa using accE
       ·have e1:(8*t.length - a')=L8:=hL8.symm
        rw [e1]
        simpa using hbs
       ·rw [oE _ (by omega) (.inl (by omega))];exact g16W
       ·exact ⟨by omega,fun k hk=>by rw [oE k (by omega) (.inl (by omega)),oW k (by omega) (by omega)];exact kp9.2 k hk⟩
    ·have hin:i=n:=by omega
     subst hin
     have hT:=J.hT
     rw [List.drop_eq_nil_of_le (by omega)] at hT
     simp only [ssD,Option.map_some,List.append_nil] at hT
     rw [hT]
     have hja:=J.ha
     simp [s87_0,j8,j18]
     refine (zgv (J.bs.kp kp9) (by omega)).mono ?_
     rintro v6 HY ⟨hY,rfl⟩
     rw [hY]
     have hend:(decide (8*t.length - a< 8∧zax t a (8*t.length - a)=0))=decide (ended t a):=rfl
     rw [hend]
     have wk:IntKind.i64.wrap ((at_:Int)+k2')=((s.length - z.length:Nat):Int):=by rw [wi (by omega) (by omega)];omega
     by_cases hen:ended t a
     ·rw [decide_eq_true hen]
      obtain ⟨KK,hKK⟩:∃KK,KK=s.length - z.length:=⟨_,rfl⟩
      rw [←hKK] at wk
      simp [hen,SqR,j7,j14,wk,tup]
      refine ⟨kpH,_,⟨rfl,by rw [hKK]⟩,?_⟩
      rw [J.hl]
      rcases J.acc with h|⟨bq,cq,h1,h2,h3,h4,h5,h6⟩
      ·exact .inl h
      ·exact .inr ⟨bq,cq,by have:=kp5.1;omega,h2,h3,h4,h5,h6⟩
     ·rw [decide_eq_false hen]
      simp [hen,SqR,tup]
      exact kpH
end
section
variable {H:Heap}
theorem zq5 {N M:Nat} {w:Value} (dict lits:Bytes) (l:List Sqt) (hA:Acc 155 3 N M H w l.length (sqs l)) (hMH:M≤H.next) (lim:Nat) (hD:dict.length≤1000000) (hl:lim≤1000000) (hli:lits.length≤1000000) (hll:l.length≤1000000):Wf S 88 [.string (ofL dict),.string (ofL lits),w,.int .i64 lim] H fun v H'=>Kp H.next H H'∧XO v (exF dict.length lim dict lits l):=by
 refine w88 rfl rfl _ _ _ _ ?_
 have hl0:¬(lim:Int)< 0:=by omega
 obtain ⟨a,c,hw,hab⟩:=hA.len
 rw [hw]
 simp [s88,hl0]
 refine l88_0 S (fun d e H'=>∃(i:Nat) (out lit2:Bytes),i≤l.length∧d=l.length - i∧exF dict.length lim dict lits l=exF dict.length lim (dict++out) lit2 (l.drop i)∧out.length≤lim∧lit2.length≤1000000∧Kp H.next H H'∧e 0= .string (ofL dict)∧e 1= .string (ofL lit2)∧e 2= .slice a l.length c∧e 3= .int .i64 lim∧e 10= .string (ofL out)∧e 11= .int .i64 i) l.length ⟨0,[],lits,by omega,by omega,by simp,by simp,hli,Kp.refl _ _,by simp,by simp,by simp,by simp,by simp [zan],by simp⟩ ?_
 rintro d e H' ⟨i,out,lit2,hi,rfl,hF,hol,hl2,hk',e0,e1,e2,e3,e10,e11⟩
 rw [hF]
 by_cases h3:i< l.length
 ·have h3':(i:Int)< l.length:=by omega
  obtain ⟨sp,hsp⟩:∃x,l[i]? =some x:=⟨_,List.getElem?_eq_getElem h3⟩
  obtain ⟨g1,g2⟩:=List.getElem?_eq_some_iff.1 hsp
  have hdr:l.drop i=sp::l.drop (i+1):=by rw [List.drop_eq_getElem_cons g1,g2]
  rw [hdr]
  obtain ⟨b,rfl,hgb⟩:=hab (by omega)
  have hgb':H'.get b= .cells (sqs l) 155 true:=by rw [hk'.2 b (by have:=zai hgb;omega)];exact hgb
  have hrd:=zkI hsp
  have hr3:i*3+3≤(sqs l).length:=by rw [zeX];omega
  have htk:List.take 3 (List.drop (i*3) (sqs l))= [.int .i64 sp.l,.int .i64 sp.m,.int .i64 sp.o]:=by
   unfold rd at hrd;rw [if_pos hr3] at hrd;exact Option.some.inj hrd
  have w1:IntKind.i64.wrap ((i:Int)+1)=(i:Int)+1:=wi (by omega) (by omega)
  have n':=hk'.1
  obtain ⟨H1,hH1⟩:∃H1,H1=H'.push (.cells [.int .i64 0,.int .i64 0,.int .i64 0] 155 true):=⟨_,rfl⟩
  have gl:H1.get H'.next= .cells [.int .i64 0,.int .i64 0,.int .i64 0] 155 true:=by rw [hH1];exact zaf
  have hn1:H1.next=H'.next+1:=by rw [hH1];simp
  obtain ⟨H2,hH2⟩:∃H2,H2=H1.put H'.next (.cells [.int .i64 sp.l,.int .i64 sp.m,.int .i64 sp.o] 155 true):=⟨_,rfl⟩
  have g2':H2.get H'.next= .cells [.int .i64 sp.l,.int .i64 sp.m,.int .i64 sp.o] 155 true:=by rw [hH2];exact zad (by omega)
  have hk2:Kp H.next H H2:=by
   refine hk'.trans ⟨by rw [hH2,next_put];omega,fun k hk=>?_⟩
   rw [hH2,zaa (by omega),hH1,zae (by omega)]
  simp only [exF,zjx]
  have hbl:(dict++out).length=dict.length+out.length:=List.length_append
  by_cases c1:sp.l< 0∨(lit2.length:Int)< sp.l
  ·rw [if_pos c1]
   by_cases c2:sp.l< 0
   ·simp [s88_0,e0,e1,e2,e3,e10,e11,h3,h3',zac,zaM,hgb',hr3,htk,-zbr,←hH1,zaW,gl,wr,←hH2,rd]
    simp [g2',c2,tup,XO,zan]
    exact hk2
   ·have c3:(lit2.length:Int)< sp.l:=by omega
    simp [s88_0,e0,e1,e2,e3,e10,e11,h3,h3',zac,zaM,hgb',hr3,htk,-zbr,←hH1,zaW,gl,wr,←hH2,rd]
    simp [g2',c2,zac,e1,zaj,c3,tup,XO,zan]
    exact hk2
  rw [if_neg c1]
  have c2:¬sp.l< 0:=by omega
  have c3:¬(lit2.length:Int)< sp.l:=by omega
  obtain ⟨ln,hln⟩:∃ln:Nat,sp.l=ln:=⟨sp.l.toNat,by omega⟩
  have hlt:sp.l.toNat=ln:=by omega
  have hll2:(lit2.take ln).length=ln:=by rw [List.length_take];omega
  have hsu:∀(HX:Heap) (K:Kv),run S (.slS (.c (.string (ofL lit2))) none (some (.c (.int .i64 (ln:Int))))) [] HX K=K (.string (ofL (lit2.take ln))) HX:=fun HX K=>by
   rw [zdt,if_pos ⟨by omega,by omega⟩,Int.toNat_natCast]
  have hsf:∀(HX:Heap) (K:Kv),run S (.slS (.c (.string (ofL lit2))) (some (.c (.int .i64 (ln:Int)))) none) [] HX K=K (.string (ofL (lit2.drop ln))) HX:=fun HX K=>by
   rw [zbs,if_pos ⟨by omega,by omega⟩,Int.toNat_natCast]
  obtain ⟨out2,ho2⟩:∃out2,out2=out++lit2.take ln:=⟨_,rfl⟩
  have hol2:out2.length=out.length+ln:=by rw [ho2,List.length_append,hll2]
  have hsa:zat .add (.string (ofL out)) (.string (ofL (lit2.take ln)))=some (.string (ofL out2)):=by rw [zf7 (by omega),←ho2]
  rw [hln] at g2' htk hH2 c2 c3
  have c2n:¬(ln:Int)< 0:=c2
  have c3n:¬lit2.length< ln:=by omega
  by_cases c4:(lim:Int)+dict.length< (dict++out).length+sp.l
  ·rw [if_pos c4]
   have c5:(lim:Int)< out2.length:=by omega
   have c5':lim< out2.length:=by omega
   simp [s88_0,e0,e1,e2,e3,e10,e11,h3,h3',zac,zaM,hgb',hr3,htk,-zbr,←hH1,zaW,gl,wr,←hH2,rd]
   simp [g2',c2,c3,c3n,zac,e0,e1,e3,e10,zaj,hsu,hsf,hsa,c5,c5',tup,XO,zan]
   exact hk2
  rw [if_neg c4]
  have c5:¬(lim:Int)< out2.length:=by omega
  have c5':¬lim< out2.length:=by omega
  have hall:(dict++out)++lit2.take ln=dict++out2:=by rw [ho2,List.append_assoc]
  have wdo:IntKind.i64.wrap ((dict.length:Int)+out2.length)=(dict.length:Int)+out2.length:=wi (by omega) (by omega)
  by_cases c6:sp.m< 3∨sp.o< 1∨((dict++out).length:Int)+sp.l< sp.o
  ·rw [if_pos c6]
   simp [s88_0,e0,e1,e2,e3,e10,e11,h3,h3',zac,zaM,hgb',hr3,htk,-zbr,←hH1,zaW,gl,wr,←hH2,rd]
   by_cases d1:sp.m< 3
   ·simp [g2',c2,c3,c3n,zac,e0,e1,e3,e10,zaj,hsu,hsf,hsa,c5,c5',d1,tup,XO,zan]
    exact hk2
   ·by_cases d2:sp.o< 1
    ·simp [g2',c2,c3,c3n,zac,e0,e1,e3,e10,zaj,hsu,hsf,hsa,c5,c5',d1,d2,tup,XO,zan]
     exact hk2
    ·have d3:(dict.length:Int)+out2.length< sp.o:=by omega
     simp [g2',c2,c3,c3n,zac,e0,e1,e3,e10,zaj,hsu,hsf,hsa,c5,c5',d1,d2,wdo,d3,tup,XO,zan]
     exact hk2
  rw [if_neg c6]
  have d1:¬sp.m< 3:=by omega
  have d2:¬sp.o< 1:=by omega
  have d3:¬(dict.length:Int)+out2.length< sp.o:=by omega
  obtain ⟨m,hm⟩:∃m:Nat,sp.m=m:=⟨sp.m.toNat,by omega⟩
  obtain ⟨o,ho⟩:∃o:Nat,sp.o=o:=⟨sp.o.toNat,by omega⟩
  have hmt:sp.m.toNat=m:=by omega
  have hot:sp.o.toNat=o:=by omega
  obtain ⟨B,hB⟩:∃B,B=dict++out2:=⟨_,rfl⟩
  have hBl:B.length=dict.length+out2.length:=by rw [hB,List.length_append]
  have hres:(∀(v:Option (Bytes×Bytes)),v=(if (lim:Int)+dict.length< (dict++out).length+(ln:Int)+(m:Int) then none else some (cpN B o m,lit2.drop ln))→v=(if (lim:Int)+dict.length< (dict++out).length+sp.l+sp.m then none else some (cpN ((dict++out)++lit2.take sp.l.toNat) sp.o.toNat sp.m.toNat,lit2.drop sp.l.toNat))):=by
   rintro v rfl
   rw [hlt,hot,hmt,hall,←hB,hln,hm]
  obtain ⟨V,hV⟩:∃V,V=(if (lim:Int)+dict.length< (dict++out).length+sp.l+sp.m then none else some (cpN ((dict++out)++lit2.take sp.l.toNat) sp.o.toNat sp.m.toNat,lit2.drop sp.l.toNat)):=⟨_,rfl⟩
  rw [←hV]
  have hV2:V=(if (lim:Int)+dict.length< (dict++out).length+(ln:Int)+(m:Int) then none else some (cpN B o m,lit2.drop ln)):=by rw [hV,←hres _ rfl]
  clear hres
  simp [s88_0,e0,e1,e2,e3,e10,e11,h3,h3',zac,zaM,hgb',hr3,htk,-zbr,←hH1,zaW,gl,wr,←hH2,rd]
  simp [g2',c2,c3,c3n,zac,e0,e1,e2,e3,e10,e11,zaj,hsu,hsf,hsa,c5,c5',d1,d2,wdo,d3]
  rw [hm,ho] at g2'
  refine l88_1 S (fun d e' HX=>∃(k:Nat) (o3:Bytes),k≤m∧d=m - k∧HX=H2∧dict++o3=cpN B o k∧o3.length≤lim∧e' 0= .string (ofL dict)∧e' 1= .string (ofL (lit2.drop ln))∧e' 2= .slice (some ⟨b,0,none⟩) l.length c∧e' 3= .int .i64 lim∧e' 10= .string (ofL o3)∧e' 11= .int .i64 i∧e' 12= .pointer (some ⟨H'.next,0,none⟩)∧e' 13= .int .i64 k) m ⟨0,out2,by omega,by omega,rfl,by rw [hB];rfl,by omega,by simp [e0],by simp,by simp [e2],by simp [e3],by simp,by simp [e11],by simp,by simp⟩ ?_
  rintro d e' HX ⟨k,o3,hk,rfl,rfl,hcp,ho3,f0,f1,f2,f3,f10,f11,f12,f13⟩
  have hcl:=zeF B o k
  have ho3l:o3.length=out2.length+k:=by
   have:(dict++o3).length=(cpN B o k).length:=by rw [hcp]
   rw [List.length_append] at this;omega
  by_cases h7:k< m
  ·have h7':(k:Int)< m:=by omega
   obtain ⟨C,hC⟩:∃C,C=dict++o3:=⟨_,rfl⟩
   have hCl:C.length=dict.length+o3.length:=by rw [hC,List.length_append]
   obtain ⟨A,hA2⟩:∃A,A=C.length - o:=⟨_,rfl⟩
   have hAl:A< C.length:=by omega
   obtain ⟨x,hx⟩:∃x,C[A]? =some x:=⟨_,List.getElem?_eq_getElem hAl⟩
   have hsa2:zat .add (.string (ofL dict)) (.string (ofL o3))=some (.string (ofL C)):=by rw [zf7 (by omega),←hC]
   have hsa3:zat .add (.string (ofL o3)) (.string (ofL [x]))=some (.string (ofL (o3++ [x]))):=zf7 (by simp;omega)
   have x1:IntKind.i64.wrap ((C.length:Int) - o)=(A:Int):=by rw [wi (by omega) (by omega)];omega
   have x2:IntKind.i64.wrap ((A:Int)+1)=((A+1:Nat):Int):=by rw [wi (by omega) (by omega)];omega
   have x3:IntKind.i64.wrap ((k:Int)+1)=(k:Int)+1:=wi (by omega) (by omega)
   have hsx:(C.take (A+1)).drop A= [x]:=by
    rw [List.take_add_one,hx,List.drop_append,List.drop_eq_nil_of_le (by rw [List.length_take];omega),List.length_take,Nat.min_eq_left (by omega),Nat.sub_self];rfl
   obtain ⟨A1,hA1⟩:∃A1,A1=A+1:=⟨_,rfl⟩
   rw [←hA1] at x2 hsx
   have hss:∀(HX:Heap) (K:Kv),run S (.slS (.c (.string (ofL C))) (some (.c (.int .i64 (A:Int)))) (some (.c (.int .i64 (A1:Int))))) [] HX K=K (.string (ofL [x])) HX:=fun HX K=>by
    rw [zdM,if_pos ⟨by omega,by omega,by omega⟩,Int.toNat_natCast,Int.toNat_natCast,hsx]
   have hcp1:dict++(o3++ [x])=cpN B o (k+1):=by
    have:(cpN B o k).getD ((cpN B o k).length - o) 0=x:=by
     rw [←hcp,←hC,←hA2,List.getD_eq_getElem?_getD,hx];rfl
    show _=cpN B o k++ [(cpN B o k).getD ((cpN B o k).length - o) 0]
    rw [this,←hcp,List.append_assoc]
   have hol3:(o3++ [x]).length=o3.length+1:=by simp
   by_cases h8:lim< o3.length+1
   ·have h8':(lim:Int)< (o3.length:Int)+1:=by omega
    have hz:V=none:=by rw [hV2,if_pos (by omega)]
    rw [hz]
    simp [s88_1,f0,f1,f2,f3,f10,f11,f12,f13,zac,g2',h7,h7',hsa2,zaj,x1,x2,hss,hsa3,h8,h8',tup,XO,zan]
    exact hk2
   ·have h8':¬(lim:Int)< (o3.length:Int)+1:=by omega
    simp [s88_1,f0,f1,f2,f3,f10,f11,f12,f13,zac,g2',h7,h7',hsa2,zaj,x1,x2,hss,hsa3,h8,h8',x3]
    exact ⟨m - (k+1),by omega,k+1,by omega,rfl,o3++ [x],hcp1,by rw [hol3];omega,rfl,by omega⟩
  ·have hkm:k=m:=by omega
   subst hkm
   have hz:V=some (cpN B o k,lit2.drop ln):=by rw [hV2,if_neg (by omega)]
   rw [hz]
   simp [s88_1,f0,f1,f2,f3,f10,f11,f12,f13,zac,g2',w1]
   exact ⟨l.length - (i+1),by omega,i+1,by omega,rfl,o3,lit2.drop ln,by rw [hcp],by omega,by simp;omega,hk2,rfl,rfl,by omega⟩
 ·have hin:i=l.length:=by omega
  subst hin
  rw [List.drop_eq_nil_of_le (Nat.le_refl _)]
  simp only [exF]
  have e0':(dict++out).length=dict.length+out.length:=List.length_append
  obtain ⟨out2,ho2⟩:∃out2,out2=out++lit2:=⟨_,rfl⟩
  have hol2:out2.length=out.length+lit2.length:=by rw [ho2,List.length_append]
  have hsa:zat .add (.string (ofL out)) (.string (ofL lit2))=some (.string (ofL out2)):=by rw [zf7 (by omega),←ho2]
  by_cases c4:lim+dict.length< (dict++out).length+lit2.length
  ·have c5:(lim:Int)< out2.length:=by omega
   have c5':lim< out2.length:=by omega
   rw [if_pos c4]
   simp [s88_0,e2,e3,e10,e11,e1,zaj,hsa,c5,c5',tup,XO,zan]
   exact hk'
  ·have c5:¬(lim:Int)< out2.length:=by omega
   have c5':¬lim< out2.length:=by omega
   have hd:((dict++out)++lit2).drop dict.length=out2:=by rw [List.append_assoc,List.drop_left,ho2]
   rw [if_neg c4,hd]
   simp [s88_0,e2,e3,e10,e11,e1,zaj,hsa,c5,c5',tup,XO]
   exact hk'
end
theorem znM {k:UInt8} {n:Nat} {u:Bytes} {p:Bytes×Bytes} (h:zcQ k n u=some p):u.drop (u.length - p.2.length)=p.2∧p.2.length≤u.length:=by
 unfold zcQ at h
 split at h
 ·split at h
  ·rename_i hle
   cases h
   refine ⟨?_,by simp⟩
   rw [List.length_drop,show u.length - (u.length - n)=n by omega]
  ·cases h
 ·split at h
  ·cases u with
   |nil=>cases h
   |cons x w=>simp only at h;cases h;refine ⟨by simp,by simp⟩
  ·split at h
   ·unfold zb3 at h
    split at h
    ·rename_i hok
     cases ht:zaz (u.drop (atN u)) false 1048576 with
     |none=>rw [ht] at h;cases h
     |some q=>
      rw [ht] at h
      simp only [Option.bind_some] at h
      cases hd:zdE (zaV u (hdN u)) q.1 n with
      |none=>rw [hd] at h;cases h
      |some d=>
       rw [hd] at h
       cases h
       obtain ⟨h1,h2⟩:=zdc ht
       simp only
       rw [List.length_drop] at h1 h2
       refine ⟨?_,by omega⟩
       rw [List.drop_drop] at h1
       by_cases ha:atN u≤u.length
       ·rw [show atN u+(u.length - atN u - q.2.length)=u.length - q.2.length by omega] at h1
        exact h1
       ·exfalso;omega
    ·cases h
   ·cases h
theorem znN {s:Bytes} {m:Nat} {p:Bytes×Bytes} (h:zcz s m=some p):s.drop (s.length - p.2.length)=p.2∧p.2.length< s.length:=by
 cases s with
 |nil=>cases h
 |cons k t=>
  simp only [zcz] at h
  rw [if_neg (by omega)] at h
  split at h
  ·cases h
  ·rename_i q hq
   obtain ⟨h1,h2⟩:=znM h
   obtain ⟨h3,h4⟩:=zdb hq
   refine ⟨?_,by simp only [List.length_cons];omega⟩
   have:=zdG (k:=q.2.length - p.2.length) h3 (by omega) (by omega)
   rw [h1] at this
   rw [List.length_cons,show t.length+1 - p.2.length=(t.length - p.2.length)+1 by omega,List.drop_succ_cons]
   exact this
theorem zo7 {s:Bytes} {m:Nat} {p:List Sqt×Bytes} (h:zgA s m=some p):p.2.length< s.length:=by
 rw [zeV] at h
 cases h1:zam s false (min m 1000) with
 |none=>rw [h1] at h;cases h
 |some q=>
  rw [h1] at h
  simp only [Option.bind_some] at h
  have h2:=(zdb h1).2
  split at h
  ·cases h;exact h2
  ·simp only [uns] at h
   cases e1:unS q.2 q.1 with
   |none=>rw [e1] at h;cases h
   |some a=>
    rw [e1] at h
    simp only [Option.bind_some] at h
    cases e2:unS a.2 q.1 with
    |none=>rw [e2] at h;cases h
    |some b=>
     rw [e2] at h
     simp only [Option.bind_some] at h
     cases e3:unS b.2 q.1 with
     |none=>rw [e3] at h;cases h
     |some c=>
      rw [e3] at h
      simp only [Option.bind_some,Option.map_some,z3l,sqT] at h
      have l1:=(zfN e1).2
      have l2:=(zfN e2).2
      have l3:=(zfN e3).2
      cases e4:zaz c.2 false 4096 with
      |none=>rw [e4] at h;cases h
      |some t=>
       rw [e4] at h
       simp only [Option.bind_some] at h
       have l4:=(zdc e4).2
       cases e5:ssD t.1 (z3 a.1 b.1 c.1) rc0 0 with
       |none=>rw [e5] at h;cases h
       |some y=>
        rw [e5] at h
        simp only [Option.bind_some] at h
        split at h
        ·cases h;simp only;omega
        ·cases h
theorem zkP (dict:Bytes) (size:Nat):(∀x:UInt8,ctP 1 [x] dict size=some (List.replicate size x))∧∀s:Bytes,s.length≠1→ctP 1 s dict size=none:=by
 refine ⟨fun x=>rfl,fun s h=>?_⟩
 match s,h with
 | [],_=>rfl
 |_::_::_,_=>rfl
theorem zo8 {k:Nat} (h0:¬k=0) (h1:¬k=1) (s dict:Bytes) (size:Nat):ctP k s dict size=mdP s dict size:=by
 unfold ctP;rw [if_neg h0,if_neg h1]
section
variable {H:Heap}
theorem zo9 (s dict:Bytes) (hs:s.length≤100000) (hd:dict.length≤100000) (k size:Nat) (hz:size≤1000000) (hk:k≤2):Wf S 55 [.string (ofL s),.string (ofL dict),.int .i64 k,.int .i64 size] H fun v H'=>Kp H.next H H'∧XB v (ctP k s dict size):=by
 refine w55 rfl rfl _ _ _ _ ?_
 by_cases k0:k=0
 ·subst k0
  unfold ctP
  rw [if_pos rfl]
  by_cases hsz:s.length=size
  ·simp [s55,zaj,hsz,tup,XB]
   exact Kp.refl _ _
  ·have hsz':¬(s.length:Int)=size:=by omega
   simp [s55,zaj,hsz,hsz',tup,XB]
   exact ⟨Kp.refl _ _,_,rfl⟩
 have k0':¬(k:Int)=0:=by omega
 by_cases k1:k=1
 ·rw [k1]
  obtain ⟨R,hR⟩:∃R,R=ctP 1 s dict size:=⟨_,rfl⟩
  rw [←hR]
  simp [s55]
  refine l55_0 S (fun d e H'=>∃i:Nat,i≤size∧d=size - i∧H'=H∧e 0= .string (ofL s)∧e 3= .int .i64 size∧(∃o:Bytes,e 10= .string (ofL o)∧∀x,s= [x]→o=List.replicate i x)∧e 11= .int .i64 i) size ⟨0,by omega,by omega,rfl,by simp,by simp,⟨[],by simp [zan],by simp⟩,by simp⟩ ?_
  rintro d e H' ⟨i,hi,rfl,rfl,e0,e3,⟨o,e10,ho⟩,e11⟩
  by_cases hs1:s.length=1
  ·obtain ⟨x,rfl⟩:∃x,s= [x]:=by
    match s,hs1 with
    | [x],_=>exact ⟨x,rfl⟩
   have hox:=ho x rfl
   have hone:(ofL [x]).size=1:=rfl
   by_cases h3:i< size
   ·have h3':(i:Int)< size:=by omega
    have w1:IntKind.i64.wrap ((i:Int)+1)=(i:Int)+1:=wi (by omega) (by omega)
    have ha:=zf7 (l:=o) (m:= [x]) (by rw [hox];simp;omega)
    simp [s55_0,e0,e3,e10,e11,h3,h3',hone,ha,w1]
    refine ⟨size - (i+1),by omega,i+1,by omega,rfl,?_,by omega⟩
    rw [hox,List.replicate_succ']
   ·have hin:i=size:=by omega
    subst hin
    rw [hR,(zkP dict i).1 x]
    simp [s55_0,e0,e3,e10,e11,hone,tup,XB]
    exact ⟨Kp.refl _ _,by rw [hox]⟩
  ·have hs1':¬(s.length:Int)=1:=by omega
   have hfin:∀o:Bytes,XB (.tuple #[.string (ofL o),.bool false]) R:=fun o=>by
    rw [hR,(zkP dict size).2 s hs1];exact ⟨o,rfl⟩
   by_cases h3:i< size
   ·have h3':(i:Int)< size:=by omega
    simp [s55_0,e0,e3,e10,e11,h3,h3',zaj,hs1,hs1',tup]
    exact ⟨Kp.refl _ _,hfin _⟩
   ·have h3':¬(i:Int)< size:=by omega
    simp [s55_0,e0,e3,e10,e11,h3,h3',zaj,hs1,hs1',tup]
    exact ⟨Kp.refl _ _,hfin _⟩
 rw [zo8 k0 k1]
 have k1':¬(k:Int)=1:=by omega
 simp [s55,k0,k0',k1,k1']
 refine (zjK hs (size:Int) (by omega)).mono ?_
 rintro v H1 ⟨hk1,hv⟩
 unfold mdP
 cases hl:zcz s size with
 |none=>
  rw [hl] at hv
  obtain rfl:=hv
  simp [tup,XB,zan]
  exact ⟨hk1,[],rfl⟩
 |some l=>
  rw [hl] at hv
  obtain rfl:=hv
  have hll:=ziS hl
  obtain ⟨l1,l2⟩:=znN hl
  obtain ⟨kk,hkk⟩:∃kk,kk=s.length - l.2.length:=⟨_,rfl⟩
  rw [←hkk] at l1⊢
  have kk0:¬kk=0:=by omega
  have kk0':¬(kk:Int)=0:=by omega
  have hsf:∀(HX:Heap) (K:Kv),run S (.slS (.c (.string (ofL s))) (some (.c (.int .i64 (kk:Int)))) none) [] HX K=K (.string (ofL l.2)) HX:=fun HX K=>by
   rw [zbs,if_pos ⟨by omega,by omega⟩,Int.toNat_natCast,l1]
  simp [kk0,kk0',hsf]
  refine (zjO (s:=l.2) (by omega) size (by omega)).mono ?_
  rintro v H2 ⟨hk2,hv⟩
  have hk12:Kp H.next H H2:=hk1.trans (hk2.mono hk1.1)
  cases hq:zgA l.2 size with
  |none=>
   rw [hq] at hv
   obtain rfl:=hv
   simp [tup,XB,zan]
   exact ⟨hk12,[],rfl⟩
  |some q=>
   rw [hq] at hv
   obtain ⟨w,rfl,hA⟩:=hv
   have hqlt:=zo7 hq
   obtain ⟨mm,hmm⟩:∃mm,mm=l.2.length - q.2.length:=⟨_,rfl⟩
   rw [←hmm]
   have mm0:¬mm=0:=by omega
   have mm0':¬(mm:Int)=0:=by omega
   have w1:IntKind.i64.wrap ((kk:Int)+mm)=((kk+mm:Nat):Int):=by rw [wi (by omega) (by omega)];omega
   obtain ⟨KM,hKM⟩:∃KM,KM=kk+mm:=⟨_,rfl⟩
   rw [←hKM] at w1
   simp only [Option.bind_some]
   by_cases hq2:q.2= []
   ·have hq20:q.2.length=0:=by rw [hq2];rfl
    have hkm:KM=s.length:=by omega
    have hql:=ziT hq
    rw [if_pos hq2]
    simp [mm0,mm0',w1,hkm,zaj]
    refine (zq5 dict l.1 q.1 hA (Nat.le_refl _) size (by omega) hz (by omega) (by omega)).mono ?_
    rintro v H4 ⟨hk4,hv⟩
    have hk14:Kp H.next H H4:=hk12.trans (hk4.mono hk12.1)
    cases he:exF dict.length size dict l.1 q.1 with
    |none=>
     rw [he] at hv
     obtain ⟨er,her,rfl⟩:=hv
     simp [her,tup,XB]
     exact ⟨hk14,[],rfl⟩
    |some o=>
     rw [he] at hv
     obtain rfl:=hv
     simp [zaj]
     by_cases hol:o.length=size
     ·simp [hol,tup,XB]
      exact hk14
     ·have hol':¬(o.length:Int)=size:=by omega
      simp [hol,hol',tup,XB]
      exact ⟨hk14,o,rfl⟩
   ·have hq20:0< q.2.length:=by
     cases hq3:q.2 with
     |nil=>exact absurd hq3 hq2
     |cons=>simp
    have hkm:¬KM=s.length:=by omega
    have hkm':¬(KM:Int)=s.length:=by omega
    rw [if_neg hq2]
    simp [mm0,mm0',w1,hkm,hkm',zaj,tup,XB,zan]
    exact ⟨hk12,[],rfl⟩
end
def hdR (s:Bytes):Value:=match hdP s with
 |some p=> .tuple #[.agg #[.int .i64 p.1.kind,.int .i64 p.1.epoch,.int .i64 p.1.size],.int .u64 p.1.sum,.int .i64 ((s.length - p.2.length:Nat):Int)]
 |none=> .tuple #[.agg #[.int .i64 0,.int .i64 0,.int .i64 0],.int .u64 0,.int .i64 0]
theorem zpa {s:Bytes} {p:Hdt×Bytes} (h:hdP s=some p):s.drop (s.length - p.2.length)=p.2∧p.2.length< s.length:=by
 cases s with
 |nil=>cases h
 |cons k u=>
  simp only [hdP] at h
  split at h
  ·cases h
  ·cases h1:zam u false 1073741824 with
   |none=>rw [h1] at h;cases h
   |some e=>
    rw [h1] at h
    simp only [Option.bind_some] at h
    cases h2:zam e.2 false 1099511627776 with
    |none=>rw [h2] at h;cases h
    |some n=>
     rw [h2] at h
     simp only [Option.bind_some] at h
     split at h
     ·cases h
     ·rename_i h8
      cases h
      obtain ⟨a1,a2⟩:=zdb h1
      obtain ⟨a3,a4⟩:=zdb h2
      have b1:=zdG (k:=e.2.length - n.2.length) a1 (by omega) (by omega)
      rw [a3] at b1
      have b2:=zdG (k:=8) b1 (by omega) (by omega)
      refine ⟨?_,by simp;omega⟩
      simp only
      rw [List.length_cons,show u.length+1 - (n.2.drop 8).length=(u.length - (n.2.drop 8).length)+1 by simp;omega,List.drop_succ_cons]
      exact b2
section
variable {H:Heap}
theorem zpb (s:Bytes) (hs:s.length≤100000):Wf S 18 [.string (ofL s)] H fun v H'=>Kp H.next H H'∧v=hdR s:=by
 refine w18 rfl rfl _ ?_
 obtain ⟨H1,hH1⟩:∃H1,H1=H.push (.cells [.int .i64 0,.int .i64 0,.int .i64 0] 3 true):=⟨_,rfl⟩
 have n1:H1.next=H.next+1:=by rw [hH1];simp
 obtain ⟨H2,hH2⟩:∃H2,H2=H1.push (.cells [.int .i64 0,.int .i64 0,.int .i64 0] 3 true):=⟨_,rfl⟩
 have n2:H2.next=H.next+2:=by rw [hH2];simp [n1]
 have g2:H2.get H.next= .cells [.int .i64 0,.int .i64 0,.int .i64 0] 3 true:=by rw [hH2,zae (by omega),hH1];exact zaf
 have g5:H2.get H1.next= .cells [.int .i64 0,.int .i64 0,.int .i64 0] 3 true:=by rw [hH2];exact zaf
 have hk2:Kp H.next H H2:=by rw [hH2,hH1];exact (Kp.push (Nat.le_refl _)).trans (Kp.push (by simp))
 have hbad:∀HX:Heap,Kp H2.next H2 HX→∃HY,HY=HX.put H.next (.cells [.int .i64 0,.int .i64 0,.int .i64 0] 3 true)∧HX.get H1.next= .cells [.int .i64 0,.int .i64 0,.int .i64 0] 3 true∧HX.get H.next= .cells [.int .i64 0,.int .i64 0,.int .i64 0] 3 true∧HY.get H.next= .cells [.int .i64 0,.int .i64 0,.int .i64 0] 3 true∧Kp H.next H HY:=by
  intro HX hk
  have:=hk.1
  exact ⟨_,rfl,by rw [hk.2 _ (by omega)];exact g5,by rw [hk.2 _ (by omega)];exact g2,zad (by omega),(hk2.trans (hk.mono (by omega))).trans (Kp.put (Nat.le_refl _))⟩
 have hio:∀(u:Bytes) m,zam u false m=(pG 0 u).bind fun p=>if p.1≤m then some p else none:=fun u m=>by simp [zam,zau]
 simp [s18,←hH1,←hH2]
 cases s with
 |nil=>
  obtain ⟨HY,hHY,y5,y2,yg,yk⟩:=hbad H2 (Kp.refl _ _)
  have hz:hdR []= .tuple #[.agg #[.int .i64 0,.int .i64 0,.int .i64 0],.int .u64 0,.int .i64 0]:=rfl
  rw [hz]
  simp [zan,zaP,zaM,y5,rd,zaW,y2,wr,←hHY,yg,tup]
  exact yk
 |cons k u=>
  have hk8:=k.toNat_lt
  simp only [List.length_cons] at hs
  have hne:((ofL (k::u)).toList==(ofL []).toList)=false:=by rw [zaP,zaP];rfl
  have hat:∀(HX:Heap) (K:Kv),run S (.idS (.c (.string (ofL (k::u)))) (.c (.int .i64 0))) [] HX K=K (bv k) HX:=fun HX K=>s_at (i:=0) rfl
  by_cases hk2':2< k.toNat
  ·have hk2i:(2:Int)< k.toNat:=by omega
   obtain ⟨HY,hHY,y5,y2,yg,yk⟩:=hbad H2 (Kp.refl _ _)
   have hz:hdR (k::u)= .tuple #[.agg #[.int .i64 0,.int .i64 0,.int .i64 0],.int .u64 0,.int .i64 0]:=by
    have:hdP (k::u)=none:=by simp only [hdP];rw [if_pos hk2']
    unfold hdR;rw [this]
   rw [hz]
   simp [zan,hne,hat,bv,hk2',hk2i,zaM,y5,rd,zaW,y2,wr,←hHY,yg,tup]
   exact yk
  have hk2i:¬(2:Int)< k.toNat:=by omega
  have hsf:∀(HX:Heap) (K:Kv),run S (.slS (.c (.string (ofL (k::u)))) (some (.c (.int .i64 1))) none) [] HX K=K (.string (ofL u)) HX:=fun HX K=>by
   rw [zbs,if_pos ⟨by omega,by simp;omega⟩];rfl
  simp [zan,hne,hat,bv,hk2',hk2i,hsf]
  refine (zbK u (by omega)).mono ?_
  rintro v H3 ⟨hk3,rfl⟩
  have hP:hdP (k::u)=(zam u false 1073741824).bind fun e=>(zam e.2 false 1099511627776).bind fun n=>
   if n.2.length< 8 then none else some (⟨k.toNat,e.1,n.1,zbY (n.2.take 8)⟩,n.2.drop 8):=by simp only [hdP];rw [if_neg hk2']
  have hnone:hdP (k::u)=none→hdR (k::u)= .tuple #[.agg #[.int .i64 0,.int .i64 0,.int .i64 0],.int .u64 0,.int .i64 0]:=fun h=>by unfold hdR;rw [h]
  rw [hio] at hP
  cases hp:pG 0 u with
  |none=>
   rw [hp] at hP
   rw [zbS hp,hnone hP]
   obtain ⟨HY,hHY,y5,y2,yg,yk⟩:=hbad H3 hk3
   simp [zaM,y5,rd,zaW,y2,wr,←hHY,yg,tup]
   exact yk
  |some q=>
   obtain ⟨ep,u2⟩:=q
   rw [hp] at hP
   simp only [Option.bind_some] at hP
   obtain ⟨hdu,hul⟩:=zbU hp
   have he64:ep< 2 ^ 64:=by simpa using zd4 hp (by omega)
   obtain ⟨k1,hk1⟩:∃k1,k1=u.length - u2.length:=⟨_,rfl⟩
   rw [zbR hp,←hk1]
   rw [←hk1] at hdu
   have k10:¬k1=0:=by omega
   have k10':¬(k1:Int)=0:=by omega
   by_cases c1:1073741824< ep
   ·have c1':(1073741824:Int)< ep:=by omega
    rw [if_neg (by omega)] at hP
    rw [hnone hP]
    obtain ⟨HY,hHY,y5,y2,yg,yk⟩:=hbad H3 hk3
    simp [k10,k10',c1,c1',zaM,y5,rd,zaW,y2,wr,←hHY,yg,tup]
    exact yk
   have c1':¬(1073741824:Int)< ep:=by omega
   rw [if_pos (by omega)] at hP
   simp only [Option.bind_some] at hP
   have w1:IntKind.i64.wrap (1+(k1:Int))=((k1+1:Nat):Int):=by rw [wi (by omega) (by omega)];omega
   obtain ⟨K1,hK1⟩:∃K1,K1=k1+1:=⟨_,rfl⟩
   rw [←hK1] at w1
   have hsf2:∀(HX:Heap) (K:Kv),run S (.slS (.c (.string (ofL (k::u)))) (some (.c (.int .i64 (K1:Int)))) none) [] HX K=K (.string (ofL u2)) HX:=fun HX K=>by
    rw [zbs,if_pos ⟨by omega,by simp;omega⟩,Int.toNat_natCast,hK1,List.drop_succ_cons,hdu]
   simp [k10,k10',c1,c1',w1,hsf2]
   refine (zbK u2 (by omega)).mono ?_
   rintro v H4 ⟨hk4,rfl⟩
   have hk34:Kp H2.next H2 H4:=hk3.trans (hk4.mono hk3.1)
   rw [hio] at hP
   cases hp2:pG 0 u2 with
   |none=>
    rw [hp2] at hP
    rw [zbS hp2,hnone hP]
    obtain ⟨HY,hHY,y5,y2,yg,yk⟩:=hbad H4 hk34
    simp [zaM,y5,rd,zaW,y2,wr,←hHY,yg,tup]
    exact yk
   |some q2=>
    obtain ⟨nn,u3⟩:=q2
    rw [hp2] at hP
    simp only [Option.bind_some] at hP
    obtain ⟨hdu2,hul2⟩:=zbU hp2
    have hn64:nn< 2 ^ 64:=by simpa using zd4 hp2 (by omega)
    obtain ⟨m1,hm1⟩:∃m1,m1=u2.length - u3.length:=⟨_,rfl⟩
    rw [zbR hp2,←hm1]
    rw [←hm1] at hdu2
    have m10:¬m1=0:=by omega
    have m10':¬(m1:Int)=0:=by omega
    have w2:IntKind.i64.wrap ((K1:Int)+m1)=((K1+m1:Nat):Int):=by rw [wi (by omega) (by omega)];omega
    obtain ⟨A,hA⟩:∃A,A=K1+m1:=⟨_,rfl⟩
    rw [←hA] at w2
    by_cases c2:1099511627776< nn
    ·have c2':(1099511627776:Int)< nn:=by omega
     rw [if_neg (by omega)] at hP
     rw [hnone hP]
     obtain ⟨HY,hHY,y5,y2,yg,yk⟩:=hbad H4 hk34
     simp [w1,w2,m10,m10',c2,c2',zaM,y5,rd,zaW,y2,wr,←hHY,yg,tup]
     exact yk
    have c2':¬(1099511627776:Int)< nn:=by omega
    rw [if_pos (by omega)] at hP
    simp only [Option.bind_some] at hP
    have hlen:(ofL (k::u)).size=u.length+1:=by rw [zaj];rfl
    have w3:IntKind.i64.wrap ((u.length:Int)+1 - A)=(u3.length:Int):=by rw [wi (by omega) (by omega)];omega
    by_cases c3:u3.length< 8
    ·have c3':(u3.length:Int)< 8:=by omega
     rw [if_pos c3] at hP
     rw [hnone hP]
     obtain ⟨HY,hHY,y5,y2,yg,yk⟩:=hbad H4 hk34
     simp [w1,w2,m10,m10',c2,c2',hlen,w3,c3,c3',zaM,y5,rd,zaW,y2,wr,←hHY,yg,tup]
     exact yk
    have c3':¬(u3.length:Int)< 8:=by omega
    rw [if_neg c3] at hP
    have hR:hdR (k::u)= .tuple #[.agg #[.int .i64 k.toNat,.int .i64 ep,.int .i64 nn],.int .u64 (zbY (u3.take 8)),.int .i64 ((A+8:Nat):Int)]:=by
     unfold hdR
     rw [hP]
     have:(k::u).length - (u3.drop 8).length=A+8:=by rw [List.length_drop,List.length_cons];omega
     simp only [this]
    rw [hR]
    have n4:=hk34.1
    have g5X:H4.get H1.next= .cells [.int .i64 0,.int .i64 0,.int .i64 0] 3 true:=by rw [hk34.2 _ (by omega)];exact g5
    have g2X:H4.get H.next= .cells [.int .i64 0,.int .i64 0,.int .i64 0] 3 true:=by rw [hk34.2 _ (by omega)];exact g2
    obtain ⟨cl,hcl⟩:∃cl:List Value,cl= [.int .i64 k.toNat,.int .i64 ep,.int .i64 nn]:=⟨_,rfl⟩
    obtain ⟨H5,hH5⟩:∃H5,H5=H4.put H1.next (.cells [.int .i64 k.toNat,.int .i64 ep,.int .i64 nn] 3 true):=⟨_,rfl⟩
    have g55:H5.get H1.next= .cells [.int .i64 k.toNat,.int .i64 ep,.int .i64 nn] 3 true:=by rw [hH5];exact zad (by omega)
    have g52:H5.get H.next= .cells [.int .i64 0,.int .i64 0,.int .i64 0] 3 true:=by rw [hH5,zaa (by omega)];exact g2X
    have n5:H5.next=H4.next:=by rw [hH5];exact next_put
    obtain ⟨H6,hH6⟩:∃H6,H6=H5.put H.next (.cells [.int .i64 k.toNat,.int .i64 ep,.int .i64 nn] 3 true):=⟨_,rfl⟩
    have g62:H6.get H.next= .cells [.int .i64 k.toNat,.int .i64 ep,.int .i64 nn] 3 true:=by rw [hH6];exact zad (by omega)
    have hk6:Kp H.next H H6:=by
     refine hk2.trans ⟨by rw [hH6,next_put];omega,fun j hj=>?_⟩
     rw [hH6,zaa (by omega),hH5,zaa (by omega),hk34.2 _ (by omega)]
    have wk:IntKind.i64.wrap (k.toNat:Int)=k.toNat:=wi (by omega) (by omega)
    have we:IntKind.i64.wrap (ep:Int)=ep:=wi (by omega) (by omega)
    have wn:IntKind.i64.wrap (nn:Int)=nn:=wi (by omega) (by omega)
    have w8:IntKind.i64.wrap ((A:Int)+8)=((A+8:Nat):Int):=by rw [wi (by omega) (by omega)];omega
    obtain ⟨A8,hA8⟩:∃A8,A8=A+8:=⟨_,rfl⟩
    rw [←hA8] at w8⊢
    have hdA:(k::u).drop A=u3:=by
     rw [hA,hK1,show k1+1+m1=(k1+m1)+1 by omega,List.drop_succ_cons,←List.drop_drop,hdu,hdu2]
    have hsl:∀(HX:Heap) (K:Kv),run S (.slS (.c (.string (ofL (k::u)))) (some (.c (.int .i64 (A:Int)))) (some (.c (.int .i64 (A8:Int))))) [] HX K=K (.string (ofL (u3.take 8))) HX:=fun HX K=>by
     rw [zdM,if_pos ⟨by omega,by omega,by simp;omega⟩,Int.toNat_natCast,Int.toNat_natCast,List.drop_take,hdA,show A8 - A=8 by omega]
    simp [w1,w2,m10,m10',c2,c2',hlen,w3,c3,c3',hat,bv,wk,we,wn,zaC,zaQ,zaw,cellsL,wr,Env.ev,zaW,g5X,←hH5,zaM,g55,rd,w8,hsl]
    refine (znF (u3.take 8) (by rw [List.length_take];omega)).mono ?_
    rintro v5 HV ⟨hV,rfl⟩
    rw [hV]
    have hck:∀P:Prop,ck (some (Value.agg #[.int .i64 k.toNat,.int .i64 ep,.int .i64 nn],H5)) (.agg #[.int .i64 k.toNat,.int .i64 ep,.int .i64 nn]) P=P:=fun P=>by
     show (veq _ _=true∧P)=P
     have:veq (Value.agg #[.int .i64 k.toNat,.int .i64 ep,.int .i64 nn]) (.agg #[.int .i64 k.toNat,.int .i64 ep,.int .i64 nn])=true:=by simp [veq,zhP,veq1]
     rw [this];simp
    simp [kop,Env.ev,zaM,g55,rd,hck,zaW,g52,wr,←hH6,g62,tup]
    exact hk6
theorem zjP (s dict:Bytes) (hs:s.length≤100000) (hd:dict.length≤100000) (lim:Int):Wf S 17 [.string (ofL s),.string (ofL dict),.int .i64 lim] H fun v H'=>v= .tuple #[.string (ofL (dcP s dict lim).2),.int .i64 ((dcP s dict lim).1:Nat)]∧Kp H.next H H':=by
 refine w17 rfl rfl _ _ _ ?_
 simp [s17]
 refine (zpb s hs).mono ?_
 rintro v H1 ⟨hk1,rfl⟩
 unfold dcP hdR
 have gz:(H1.push (.cells [.int .i64 0,.int .i64 0,.int .i64 0] 3 true)).get H1.next= .cells [.int .i64 0,.int .i64 0,.int .i64 0] 3 true:=zaf
 obtain ⟨H2,hH2⟩:∃H2,H2=H1.push (.cells [.int .i64 0,.int .i64 0,.int .i64 0] 3 true):=⟨_,rfl⟩
 have n2:H2.next=H1.next+1:=by rw [hH2];simp
 have k2:Kp H.next H H2:=hk1.trans (by rw [hH2];exact Kp.push hk1.1)
 rw [←hH2] at gz
 have n1:=hk1.1
 cases hh:hdP s with
 |none=>
  simp [←hH2,zaW,gz,wr,tup,zan]
  exact k2.trans (Kp.put n1)
 |some p=>
  obtain ⟨hkd,htl,hep,hsz,hsm⟩:=ziU hh
  have hsx:=zpa hh
  obtain ⟨hd0,t⟩:=p
  obtain ⟨K,E,Z,Sm⟩:=hd0
  simp only at hkd htl hep hsz hsm hsx⊢
  obtain ⟨hs1,hs2⟩:=hsx
  obtain ⟨A,hA⟩:∃A,A=s.length - t.length:=⟨_,rfl⟩
  rw [←hA] at hs1⊢
  have A0:¬A=0:=by omega
  have A0':¬(A:Int)=0:=by omega
  obtain ⟨H4,hH4⟩:∃H4,H4=H2.put H1.next (.cells [.int .i64 K,.int .i64 E,.int .i64 Z] 3 true):=⟨_,rfl⟩
  have z4:H4.get H1.next= .cells [.int .i64 K,.int .i64 E,.int .i64 Z] 3 true:=by rw [hH4];exact zad (by omega)
  have k4:Kp H.next H H4:=by rw [hH4];exact k2.trans (Kp.put n1)
  have hsf:∀(HX:Heap) (K:Kv),run S (.slS (.c (.string (ofL s))) (some (.c (.int .i64 (A:Int)))) none) [] HX K=K (.string (ofL t)) HX:=fun HX K=>by
   rw [zbs,if_pos ⟨by omega,by omega⟩,Int.toNat_natCast,hs1]
  simp [←hH2,zaW,gz,wr,←hH4,A0,A0',zac,z4]
  by_cases c1:lim< Z
  ·have c1':lim< Z∨512< Z:= .inl c1
   rw [if_pos c1']
   simp [c1,tup,zan]
   exact k4
  by_cases c2:512< Z
  ·have c1':lim< Z∨512< Z:= .inr c2
   have c2':(512:Int)< Z:=by omega
   rw [if_pos c1']
   simp [c1,z4,c2,c2',zac,tup,zan]
   exact k4
  have c1':¬(lim< Z∨512< Z):=fun h=>h.elim c1 c2
  have c2':¬(512:Int)< Z:=by omega
  rw [if_neg c1']
  simp [c1,c2,c2',z4,zac,hsf]
  refine (zo9 t dict (by omega) hd K Z (by omega) hkd).mono ?_
  rintro v H5 ⟨hk5,hv⟩
  have k5:Kp H.next H H5:=k4.trans (hk5.mono k4.1)
  cases hct:ctP K t dict Z with
  |none=>
   rw [hct] at hv
   obtain ⟨x,rfl⟩:=hv
   simp [tup,zan]
   exact k5
  |some o=>
   rw [hct] at hv
   obtain rfl:=hv
   have hol:=zhK hct
   simp
   refine (zqK o (by omega)).mono ?_
   rintro v H6 ⟨h6,rfl⟩
   rw [h6]
   by_cases hs2:zhv o=Sm
   ·simp [hs2,tup]
    exact k5
   ·have hs2':¬(zhv o:Int)=Sm:=by omega
    simp [hs2,hs2',tup,zan]
    exact k5
end
theorem zhM {s t:Bytes} {v:Nat} (h:pG 0 s=some (v,t)):zbp s= .tuple #[.int .u64 (v:Int),.int .i64 ((s.length - t.length:Nat):Int)]:=by unfold zbp;rw [h]
theorem zhN {s:Bytes} (h:pG 0 s=none):zbp s= .tuple #[.int .u64 0,.int .i64 0]:=by unfold zbp;rw [h]
set_option maxHeartbeats 4000000
structure LnJ (H0:Heap) (dict:Bytes) (f:Option (List Nat×Bytes)) (n:Nat) (d:Nat) (e:Fe) (H:Heap) (i:Nat) (s:Bytes) (l:List Nat):Prop where
 hi:i≤n
 hd:d=n - i
 hs:s.length≤100000
 ho:l.length=i
 hsum:l.sum≤1099511627776*i
 kp:Kp H0.next H0 H
 acc:Acc 3 1 H0.next H.next H (e 8) i (nts l)
 fin:lnR (n - i) s l=f
 e0:e 0= .string (ofL s)
 e1:e 1= .string (ofL dict)
 e6:e 6= .int .u64 n
 e9:e 9= .int .i64 (l.sum:Nat)
 e10:e 10= .int .u64 i
structure CtJ (a:Option Addr) (c:Nat) (L:List Nat) (f:List Bytes) (H0 HL:Heap) (d:Nat) (e:Fe) (H:Heap) (i:Nat) (r:Bytes) (out:List Bytes):Prop where
 hi:i≤L.length
 hd:d=L.length - i
 ho:out.length=i
 hr:r.length=(L.drop i).sum
 hr2:r.length≤512
 kp:Kp HL.next HL H
 acc:Acc 9 1 HL.next H.next H (e 15) i (strs out)
 fin:out++cuts (L.drop i) r=f
 e8:e 8= .slice a L.length c
 e13:e 13= .string (ofL r)
 e16:e 16= .int .i64 i
section
variable {H:Heap} {s dict:Bytes}
theorem zpc (hs:s.length≤100000) (hd:dict.length≤100000):Wf S 41 [.string (ofL s),.string (ofL dict)] H fun v H'=>Kp H.next H H'∧∃a c,v= .tuple #[.slice a (btP s dict).2.length c,.int .i64 ((btP s dict).1:Nat)]∧Sv H' a (btP s dict).2:=by
 refine w41 rfl rfl _ _ ?_
 simp [s41]
 refine (zbK s (by omega)).mono ?_
 rintro v H1 ⟨k1,rfl⟩
 have hno:∀(H':Heap),Kp H.next H H'→Kp H.next H H'∧Sv H' none ([]:List Bytes):=fun H' hk=>⟨hk,fun h=>absurd h (by simp)⟩
 have hln:lnP s=match (pG 0 s).bind fun p=>if p.1≤100 then lnR p.1 p.2 [] else none with
   |none=>(3,[],[])
   |some q=>if 512< q.1.sum then (5,[],[]) else (0,q.1,q.2):=by
  unfold lnP zam zau
  cases pG 0 s with
  |none=>simp
  |some p=>
   by_cases hp:p.1≤100
   ·simp only [Bool.false_eq_true,if_false,Option.bind_some,hp,if_true]<;>rfl
   ·simp [hp]
 unfold btP
 cases hp:pG 0 s with
 |none=>
  rw [hp] at hln
  rw [zhN hp]
  simp only [Option.bind_none] at hln
  simp [hln,tup]
  exact hno _ k1
 |some p=>
  obtain ⟨n,t⟩:=p
  rw [hp] at hln
  simp only [Option.bind_some] at hln
  obtain ⟨hd1,hl1⟩:=zbU hp
  have hn64:=zd4 hp (by omega)
  simp only [Nat.pow_zero,Nat.mul_one] at hn64
  rw [zhM hp]
  obtain ⟨j1,hj1⟩:∃j1,j1=s.length - t.length:=⟨_,rfl⟩
  rw [←hj1] at hd1⊢
  have hj0:¬j1=0:=by omega
  by_cases hn:100< n
  ·have hn':(100:Int)< n:=by omega
   rw [if_neg (by omega)] at hln
   simp only at hln
   simp [hj0,hn',hln,tup]
   exact hno _ k1
  have hn':¬(100:Int)< n:=by omega
  rw [if_pos (by omega)] at hln
  have hfr:=fun (K:Kv) (H:Heap)=>zbs (S:=S) (e:= []) (H:=H) (K:=K) (l:=s) (k:= .i64) (a:=(j1:Int))
  have hle:(0:Int)≤(j1:Int)∧(j1:Int)≤(s.length:Int):=by omega
  simp only [if_pos hle,Int.toNat_natCast,hd1] at hfr
  simp [hj0,hn',hfr]
  refine l41_1 S (fun d e H'=>∃i s' l,LnJ H dict (lnR n t []) n d e H' i s' l) n ⟨0,t,[],by omega,rfl,by omega,rfl,by simp,k1,by simp [nts];exact Acc.nil,by simp,by simp,by simp,by simp,by simp,by simp⟩ ?_
  rintro d e H2 ⟨i,s',l,hi,rfl,hs',ho,hsum,kp,acc,fin,e0,e1,e6,e9,e10⟩
  by_cases hlt:i< n
  ·have hlt':(i:Int)< n:=by omega
   obtain ⟨m,hm⟩:∃m,n - i=m+1:=⟨n - i - 1,by omega⟩
   rw [hm] at fin
   simp only [lnR,zam,zau,Bool.false_eq_true,if_false] at fin
   simp [s41_1,e0,e6,e9,e10,hlt,hlt']
   refine (zbK s' (by omega)).mono ?_
   rintro v H3 ⟨k3,rfl⟩
   have kp3:=kp.trans (k3.mono kp.1)
   cases hp':pG 0 s' with
   |none=>
    rw [hp'] at fin
    simp only [Option.bind_none] at fin
    rw [←fin] at hln
    simp only at hln
    rw [zhN hp']
    simp [tup,hln]
    exact hno _ kp3
   |some q=>
    obtain ⟨v,t'⟩:=q
    rw [hp'] at fin
    simp only [Option.bind_some] at fin
    obtain ⟨hd2,hl2⟩:=zbU hp'
    have hv64:=zd4 hp' (by omega)
    simp only [Nat.pow_zero,Nat.mul_one] at hv64
    rw [zhM hp']
    obtain ⟨j2,hj2⟩:∃j2,j2=s'.length - t'.length:=⟨_,rfl⟩
    rw [←hj2] at hd2⊢
    have hj20:¬j2=0:=by omega
    by_cases hv:1099511627776< v
    ·have hv':(1099511627776:Int)< v:=by omega
     rw [if_neg (by omega)] at fin
     simp only [Option.bind_none] at fin
     rw [←fin] at hln
     simp only at hln
     simp [hj20,hv,hv',tup,hln]
     exact hno _ kp3
    have hv':¬(1099511627776:Int)< v:=by omega
    rw [if_pos (by omega)] at fin
    simp only [Option.bind_some] at fin
    have w3:IntKind.i64.wrap (v:Int)=(v:Int):=wi (by omega) (by omega)
    have w4:IntKind.i64.wrap ((l.sum:Nat)+(v:Int))=((l++ [v]).sum:Nat):=by rw [wi (by omega) (by omega)];simp
    have w5:IntKind.u64.wrap ((i:Int)+1)=((i+1:Nat):Int):=by rw [wu64 (by omega) (by omega)];omega
    have hfr2:=fun (K:Kv) (H:Heap)=>zbs (S:=S) (e:= []) (H:=H) (K:=K) (l:=s') (k:= .i64) (a:=(j2:Int))
    have hle2:(0:Int)≤(j2:Int)∧(j2:Int)≤(s'.length:Int):=by omega
    simp only [if_pos hle2,Int.toNat_natCast,hd2] at hfr2
    have acc3:Acc 3 1 H.next H3.next H3 (e 8) i (nts l):=(acc.kp fun k hk1 hk2=>k3.2 k hk2).mono k3.1
    obtain ⟨v',H4,e4,hA,hn4,hk4⟩:=acc3.app (bytes:=8) (new:= [.int .i64 (v:Nat)]) kp3.1 (Nat.le_refl _) rfl (by unfold zag;omega)
    simp [hj20,hv,hv',w3,w4,w5,hfr2,zaC,zaQ,zaw,cellsL,wr,zaJ,rd,e4,e0,e6,e9,e10]
    exact ⟨n - (i+1),by omega,i+1,t',l++ [v],by omega,rfl,by omega,by simp [ho],by simp;omega,⟨by have:=kp3.1;omega,fun k hk=>by rw [hk4 k (by have:=kp3.1;omega) (.inl hk)];exact kp3.2 k hk⟩,by
     simpa [zkM,nts] using hA,by rw [show n - (i+1)=m by omega];exact fin,by simp,by simp [e1],by simp [e6],by simp,by simp⟩
  ·obtain rfl:i=n:=by omega
   rw [Nat.sub_self] at fin
   simp only [lnR] at fin
   rw [←fin] at hln
   simp only at hln
   simp [s41_1,e0,e1,e6,e9,e10]
   by_cases h5:512< l.sum
   ·have h5':(512:Int)< (l.sum:Nat):=by omega
    rw [if_pos h5] at hln
    simp [h5',hln,tup]
    exact hno _ kp
   have h5':¬(512:Int)< (l.sum:Nat):=by omega
   rw [if_neg h5] at hln
   simp [h5',hln,e0,e1]
   refine (zjP s' dict hs' hd 512).mono ?_
   rintro v H3 ⟨rfl,k3⟩
   have kp3:=kp.trans (k3.mono kp.1)
   have hd5:= @zkO s' dict
   obtain ⟨z,hz⟩:∃z,z=dcP s' dict 512:=⟨_,rfl⟩
   rw [←hz] at hd5⊢
   by_cases h1:z.1=0
   ·by_cases h6:z.2.length=l.sum
    ·have h6':(z.2.length:Int)=(l.sum:Nat):=by omega
     simp [h1,h6,h6',zaj,e9]
     have hcu:∀r:List Bytes,(¬z.2.length=l.sum→False)→True:=fun _ _=>trivial
     obtain ⟨a,c,hwv,hg⟩:=acc.len
     rw [←ho] at hwv
     have hg3:0< l.length→∃b,a=some ⟨b,0,none⟩∧b< H3.next∧H3.get b= .cells (nts l) 3 true:=fun hp=>by
      obtain ⟨b,h2,h3⟩:=hg (by omega)
      have hlt:b< H2.next:=zai h3
      exact ⟨b,h2,by have:=k3.1;omega,by rw [k3.2 b hlt];exact h3⟩
     refine l41_0 S (fun d e H'=>∃i r' out,CtJ a c l (cuts l z.2) H H3 d e H' i r' out) l.length ⟨0,z.2,[],by omega,rfl,rfl,by simpa using h6,hd5,Kp.refl _ _,by simp [strs];exact Acc.nil,by simp,by simp [hwv],by simp,by simp⟩ ?_
     rintro d e H5 ⟨i,r',out,hi,rfl,ho2,hr',hr2,kp5,acc5,fin5,e8,e13,e16⟩
     have kpA:=kp3.trans (kp5.mono kp3.1)
     by_cases hlt:i< l.length
     ·have hlt':(i:Int)< l.length:=by omega
      obtain ⟨n,hn⟩:∃n,l[i]? =some n:=⟨_,List.getElem?_eq_getElem hlt⟩
      obtain ⟨b,rfl,hb,hgb⟩:=hg3 (by omega)
      have hg5:H5.get b= .cells (nts l) 3 true:=by rw [kp5.2 b hb];exact hgb
      have hdr:l.drop i=n::l.drop (i+1):=by
       rw [List.drop_eq_getElem_cons hlt]
       congr 1
       exact Option.some.inj (by rw [←List.getElem?_eq_getElem hlt,hn])
      have hs1:(n::l.drop (i+1)).sum=n+(l.drop (i+1)).sum:=List.sum_cons
      rw [hdr,hs1] at hr'
      rw [hdr] at fin5
      simp only [cuts] at fin5
      have w1:IntKind.i64.wrap ((i:Int)+1)=((i+1:Nat):Int):=by rw [wi (by omega) (by omega)];omega
      have hup:=fun (K:Kv) (H:Heap)=>zdt (S:=S) (e:= []) (H:=H) (K:=K) (l:=r') (k:= .i64) (b:=(n:Int))
      have hfr:=fun (K:Kv) (H:Heap)=>zbs (S:=S) (e:= []) (H:=H) (K:=K) (l:=r') (k:= .i64) (a:=(n:Int))
      have hle:(0:Int)≤(n:Int)∧(n:Int)≤(r'.length:Int):=by omega
      simp only [if_pos hle,Int.toNat_natCast] at hup hfr
      obtain ⟨v',H6,e1',hA,hn6,hk6⟩:=acc5.app (bytes:=16) (new:= [.string (ofL (r'.take n))]) kp5.1 (Nat.le_refl _) rfl (by unfold zag;omega)
      have hg6:H6.get b= .cells (nts l) 3 true:=by rw [hk6 b (by have:=kp5.1;omega) (.inl hb)];exact hg5
      simp [s41_0,e8,e13,e16,hlt,hlt',zac,hg5,hg6,zhL hn,hup,hfr,zaC,zaQ,zaw,cellsL,wr,zaJ,rd,e1',w1]
      exact ⟨l.length - (i+1),by omega,i+1,r'.drop n,out++ [r'.take n],by omega,rfl,by simp [ho2],by rw [List.length_drop];omega,by rw [List.length_drop];omega,⟨by have:=kp5.1;omega,fun k hk=>by rw [hk6 k (by have:=kp5.1;omega) (.inl hk)];exact kp5.2 k hk⟩,by
       simpa [ziV,strs,encS] using hA,by rw [←fin5];simp,by simp [e8],by simp,by simp⟩
     ·obtain rfl:i=l.length:=by omega
      rw [List.drop_length] at fin5
      simp only [cuts,List.append_nil] at fin5
      obtain ⟨a2,c2,hv2,hsv⟩:=acc5.sv (l:=out) ho2.symm
      simp [s41_0,e8,e13,e16]
      simp [←fin5,hv2,tup]
      exact ⟨kpA,hsv⟩
    ·have h6':¬(z.2.length:Int)=(l.sum:Nat):=by omega
     simp [h1,h6,h6',zaj,e9,tup]
     exact hno _ kp3
   ·simp [h1,tup]
    exact hno _ kp3
end
theorem zpd (s dict:Bytes):(btP s dict).2.length≤100:=by
 unfold btP
 split
 ·rename_i h
  have:=(znK h).1
  split
  ·split
   ·simp only [ziX];exact this
   ·simp
  ·simp
 ·simp
theorem ziZ (s dict:Bytes) {H:Heap}:Wf S 12 [.string (ofL s),.string (ofL dict)] H fun v _=>v= .bool true:=by
 refine w12 rfl rfl _ _ ?_
 simp [s12,zaj]
 refine zhg aw40_prim ⟨_,_,rfl,?_⟩
 by_cases h1:(200:Int)< s.length
 ·simp [h1,zaj]
 simp [h1,zaj]
 by_cases h2:(60:Int)< dict.length
 ·simp [h2,zaj]
 simp [h2,zaj]
 refine (zq4 (s:=s) (dict:=dict) (by omega) (by omega)).mono ?_
 rintro v H1 ⟨a,c,rfl,hv⟩
 simp [h1,h2,zaj]
 refine (zpc (s:=s) (dict:=dict) (by omega) (by omega)).mono ?_
 rintro v H2 ⟨k2,a2,c2,rfl,hv2⟩
 have hl:=zpd s dict
 simp
 refine (zq2 (hv.kp k2) hv2 (by omega) rfl).mono ?_
 rintro v H3 ⟨rfl,rfl⟩
 simp
 refine (znL s).mono ?_
 rintro v H4 rfl
 simp
 refine (zbK s (by omega)).mono ?_
 rintro v H5 ⟨_,rfl⟩
 cases hp:pG 0 s with
 |none=>
  rw [zhN hp]
  simp [zam,zau,hp,gvN]
 |some p=>
  obtain ⟨n,t⟩:=p
  have hl1:=(zbU hp).2
  have hn64:=zd4 hp (by omega)
  simp only [Nat.pow_zero,Nat.mul_one] at hn64
  rw [zhM hp]
  have hj0:¬s.length - t.length=0:=by omega
  by_cases hn:100< n
  ·have hn':(100:Int)< n:=by omega
   have hn2:¬n≤100:=by omega
   simp [zam,zau,hp,gvN,hj0,hn,hn',hn2]
  ·have hn':¬(100:Int)< n:=by omega
   have hn2:n≤100:=by omega
   have w3:IntKind.i64.wrap (n:Int)=(n:Int):=wi (by omega) (by omega)
   simp [zam,zau,hp,gvN,hj0,hn,hn',hn2,w3]
end Go.Proofs.YtjgpbhodbgjggaaGreat.K
