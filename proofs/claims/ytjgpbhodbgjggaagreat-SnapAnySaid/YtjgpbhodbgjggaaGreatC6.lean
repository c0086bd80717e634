/- A part of the proof of PSnapAny, made small by a program of this work (mini.py). Conditions: none. -/
import Derived.Test.YtjgpbhodbgjggaaGreatC5
import Derived.Test.YtjgpbhodbgjggaaGreatC3
import Derived.Test.YtjgpbhodbgjggaaGreatC4
import Derived.Test.YtjgpbhodbgjggaaGreatC2
set_option linter.defProp false
set_option linter.unusedVariables false
set_option linter.unusedSimpArgs false
set_option maxRecDepth 100000
set_option maxHeartbeats 2000000
namespace Go.Proofs.YtjgpbhodbgjggaaGreat.K
open Go Go.Proofs
section
variable {H:Heap} {a:Option Addr} {c:Nat} {l:List Int}
theorem zgV {l:List Int} (hall:∀k,0≤at0 l k∧at0 l k≤11) (x:Int) (s k:Nat):0≤sumTo (before l x s) k∧sumTo (before l x s) k≤1024*k:=by
 induction k with
 |zero=>simp [sumTo]
 |succ k ih=>
  have h1:=zd0 l x s k
  have h2:before l x s k≤1024:=by
   unfold before
   split
   ·exact zey (by omega)
   ·omega
  simp only [sumTo];omega
theorem zne {i:Nat} {x:Int} {e:Fe} {Q:Kx} (hl:Iv H a l) (hlen:l.length≤256) (hall:∀k,0≤at0 l k∧at0 l k≤11) (hx:l[i]? =some x) (e0:e 0= .slice a l.length c) (e4:e 4= .int .i64 i) (e5:e 5= .int .i64 0) (e6:e 6= .int .i64 0)
  (hQ:∀e',e' 0= .slice a l.length c→e' 3=e 3→e' 4= .int .i64 i→e' 5= .int .i64 (ahead l x i)→Q (.exit 2) e' H):WL S b211_1 e H Q:=by
 refine l211_1 S (fun d e' H'=>∃k:Nat,k≤l.length∧d=l.length - k∧H'=H∧e' 0= .slice a l.length c∧e' 3=e 3∧e' 4= .int .i64 i∧e' 5= .int .i64 (sumTo (before l x i) k)∧e' 6= .int .i64 k) l.length ⟨0,by omega,by omega,rfl,e0,rfl,e4,by simpa [sumTo] using e5,e6⟩ ?_
 rintro d e' H' ⟨k,hk,rfl,rfl,f0,f3,f4,f5,f6⟩
 by_cases h3:k< l.length
 ·obtain ⟨b,o,cs,rw,rfl,hg,hc⟩:=hl (by omega)
  obtain ⟨y,hy⟩:∃y,l[k]? =some y:=⟨_,List.getElem?_eq_getElem h3⟩
  have hcy:=hc k y hy
  have hcx:=hc i x hx
  have hi:=(List.getElem?_eq_some_iff.1 hx).1
  have hay:=at0_of hy
  have hyb:=hall k
  rw [hay] at hyb
  have hw:IntKind.i64.wrap ((k:Int)+1)=(k:Int)+1:=wi (by omega) (by omega)
  have hbd:=zgV hall x i k
  have hpl:0< y→part y≤1024:=fun h=>zey (by omega)
  have hpp:=zbb y
  have hw2:IntKind.i64.wrap (11 - y)=((11 - y).toNat:Int):=by rw [wi (by omega) (by omega)];omega
  by_cases g:0< y∧(y< x∨y=x∧k< i)
  ·have hbe:before l x i k=part y:=by unfold before;rw [hay,if_pos g]
   have hpl':=hpl g.1
   have hw4:IntKind.i64.wrap (sumTo (before l x i) k+part y)=sumTo (before l x i) k+part y:=wi (by omega) (by omega)
   have hpe:p2 (11 - y).toNat=part y:=rfl
   by_cases g2:y< x
   ·simp [s211_1,f0,f4,f5,f6,h3,hi,zac,hg,hcy,hcx,g.1,g2]
    rw [hw2]
    refine (zcv H' (11 - y).toNat (by omega)).mono ?_
    rintro v H2 ⟨rfl,rfl⟩
    simp [f0,f3,f4,f5,f6,hpe,hw,hw4]
    exact ⟨l.length - (k+1),by omega,k+1,by omega,rfl,by simp [sumTo,hbe],by omega⟩
   ·have g3:y=x:=by omega
    have g4:k< i:=by omega
    subst g3
    simp [s211_1,f0,f4,f5,f6,h3,hi,zac,hg,hcy,hcx,g.1,g4]
    rw [hw2]
    refine (zcv H' (11 - y).toNat (by omega)).mono ?_
    rintro v H2 ⟨rfl,rfl⟩
    simp [f0,f3,f4,f5,f6,hpe,hw,hw4]
    exact ⟨l.length - (k+1),by omega,k+1,by omega,rfl,by simp [sumTo,hbe],by omega⟩
  ·have hbe:before l x i k=0:=by unfold before;rw [hay,if_neg g]
   by_cases g1:0< y
   ·have g2:¬y< x:=fun e=>g ⟨g1,.inl e⟩
    by_cases g3:y=x
    ·have g4:¬k< i:=fun e=>g ⟨g1,.inr ⟨g3,e⟩⟩
     subst g3
     simp [s211_1,f0,f3,f4,f5,f6,h3,hi,zac,hg,hcy,hcx,g1,g4,hw]
     exact ⟨l.length - (k+1),by omega,k+1,by omega,rfl,by simp [sumTo,hbe],by omega⟩
    ·simp [s211_1,f0,f3,f4,f5,f6,h3,hi,zac,hg,hcy,hcx,g1,g2,g3,hw]
     exact ⟨l.length - (k+1),by omega,k+1,by omega,rfl,by simp [sumTo,hbe],by omega⟩
   ·simp [s211_1,f0,f3,f4,f5,f6,h3,hi,zac,hg,hcy,hcx,g1,hw]
    exact ⟨l.length - (k+1),by omega,k+1,by omega,rfl,by simp [sumTo,hbe],by omega⟩
 ·have h5:k=l.length:=by omega
  subst h5
  simp [s211_1,f0,f6]
  exact hQ _ (by simp [f0]) (by simp [f3]) (by simp [f4]) (by simp [f5,ahead])
def upto (l:List Int) (i:Nat):List Int:=(List.range l.length).map fun k=>if k< i then codeOf l k else 0
theorem zcN (l:List Int) (i:Nat):(upto l i).length=l.length:=by simp [upto]
theorem zeN {i k:Nat} (hk:k< l.length):(upto l i)[k]? =some (if k< i then codeOf l k else 0):=by simp [upto,hk]
theorem zle {i:Nat} (hi:i< l.length):upto l (i+1)=(upto l i).set i (codeOf l i):=by
 apply List.ext_getElem?
 intro k
 by_cases hk:k< l.length
 ·rw [zeN hk,List.getElem?_set]
  by_cases h:i=k
  ·subst h
   rw [if_pos rfl,if_pos (show i< (upto l i).length by rw [zcN];exact hi),if_pos (by omega)]
  ·rw [if_neg h,zeN hk]
   congr 1
   exact zkm (fun hh=>by omega) (fun hh=>by omega)
 ·rw [List.getElem?_eq_none (by rw [zcN];omega),List.getElem?_eq_none (by rw [List.length_set,zcN];omega)]
theorem zlf {i:Nat} (hi:i< l.length) (h0:codeOf l i=0):upto l (i+1)=upto l i:=by
 apply List.ext_getElem?
 intro k
 by_cases hk:k< l.length
 ·rw [zeN hk,zeN hk]
  congr 1
  by_cases h:k=i
  ·subst h;rw [if_pos (by omega),if_neg (by omega),h0]
  ·exact zkm (fun hh=>by omega) (fun hh=>by omega)
 ·rw [List.getElem?_eq_none (by rw [zcN];omega),List.getElem?_eq_none (by rw [zcN];omega)]
theorem znf:upto l l.length=codes l:=by
 unfold upto codes
 refine List.map_congr_left fun k hk=>?_
 have:k< l.length:=by simpa using hk
 rw [if_pos this]
theorem zng (hl:Iv H a l) (hr:zaS l=true):
  Wf S 211 [.slice a l.length c] H fun v H'=>Kp H.next H H'∧v= .slice (some ⟨H.next,0,none⟩) l.length l.length∧Own H' H.next (codes l):=by
 have hlen:=za8 hr
 have hall:=zaY hr
 refine w211 rfl rfl _ ?_
 have m1:(l.length:Int)≤9223372036854775807:=by omega
 have m2:8*(l.length:Int)≤281474976710656:=by omega
 simp [s211,zcA,m1,m2]
 refine l211_0 S (fun d e H'=>∃i:Nat,i≤l.length∧d=l.length - i∧Kp H.next H H'∧Own H' H.next (upto l i)∧e 0= .slice a l.length c∧e 3= .slice (some ⟨H.next,0,none⟩) l.length l.length∧e 4= .int .i64 i) l.length ⟨0,by omega,by omega,Kp.push (Nat.le_refl _),?_,by simp,by simp,by simp⟩ ?_
 ·unfold Own
  rw [zaf]
  simp [ints,zeros,upto,List.map_const']
 rintro d e H' ⟨i,hi,rfl,hk,ho,e0,e3,e4⟩
 by_cases h3:i< l.length
 ·have hl':Iv H' a l:=hl.kp hk
  have hl2:=hl'
  obtain ⟨b,o,cs,rw,rfl,hg,hc⟩:=hl' (by omega)
  obtain ⟨x,hx⟩:∃x,l[i]? =some x:=⟨_,List.getElem?_eq_getElem h3⟩
  have hcx:=hc i x hx
  have hax:=at0_of hx
  have hxb:=hall i
  rw [hax] at hxb
  have hw:IntKind.i64.wrap ((i:Int)+1)=(i:Int)+1:=wi (by omega) (by omega)
  by_cases g0:x=0
  ·subst g0
   simp [s211_0,e0,e3,e4,h3,zac,hg,hcx,hw]
   refine ⟨l.length - (i+1),by omega,i+1,by omega,rfl,hk,?_,by omega⟩
   rw [zlf h3 (by unfold codeOf;rw [hax];simp)];exact ho
  ·have hnn:0< at0 l i:=by rw [hax];omega
   obtain ⟨hd1,hd2⟩:=zc4 h3 hnn (by rw [hax];exact hxb.2)
   rw [hax] at hd1 hd2
   simp [s211_0,e0,e3,e4,h3,zac,hg,hcx,g0]
   refine zne (i:=i) (x:=x) (c:=c) hl2 hlen hall hx (by simp [e0]) (by simp [e4]) (by simp) (by simp) ?_
   intro e' f0 f3 f4 f5
   have hw2:IntKind.i64.wrap (11 - x)=((11 - x).toNat:Int):=by rw [wi (by omega) (by omega)];omega
   simp [f0,f4,h3,zac,hg,hcx]
   rw [hw2]
   refine (zcv H' (11 - x).toNat (by omega)).mono ?_
   rintro v H2 ⟨rfl,rfl⟩
   have hpe:p2 (11 - x).toNat=part x:=rfl
   have hp:=zbb x
   have hp0:¬part x=0:=by omega
   have han:=zb4 l x i
   have hbd:=zgV hall x i l.length
   have hae:ahead l x i=sumTo (before l x i) l.length:=rfl
   have htd:(ahead l x i).tdiv (part x)=codeOf l i:=by rw [Int.tdiv_eq_ediv_of_nonneg han,hd1]
   have hcn:0≤codeOf l i∧codeOf l i≤ahead l x i:=by
    rw [hd1]
    exact ⟨Int.ediv_nonneg han (by omega),Int.ediv_le_self _ han⟩
   have hw3:IntKind.i64.wrap (codeOf l i)=codeOf l i:=wi (by omega) (by omega)
   have hlt:=zai ho
   have hkst:kSt H2 (.pointer (some ⟨H.next,i,none⟩)) (.int .i64 (codeOf l i))=some (H2.put H.next (.cells (ints (upto l (i+1))) 3 true)):=by
    have ho':H2.get H.next= .cells (ints (upto l i)) 3 true:=ho
    rw [zle h3]
    simp [kSt,ho',zaB,ints,zcN,h3,List.map_set]
   simp [f0,f3,f4,f5,e3,hpe,hp0,htd,hw3,h3,zac,hkst,hw]
   exact ⟨l.length - (i+1),by omega,i+1,by omega,rfl,hk.trans (Kp.put (Nat.le_refl _)),zad hlt,by omega⟩
 ·have h5:i=l.length:=by omega
  subst h5
  simp [s211_0,e0,e3,e4]
  exact ⟨hk,by rw [←znf];exact ho⟩
end
section
variable {H:Heap}
def zft (c n j:Nat):List Int:=(List.range j).map fun i=>((c / 2 ^ (n - 1 - i) % 2:Nat):Int)
theorem zlg (c n j:Nat):zft c n (j+1)=zft c n j++ [((c / 2 ^ (n - 1 - j) % 2:Nat):Int)]:=by simp [zft,List.range_succ]
def zcq (l:List Int) (s:Nat):List Int:=zft (codeOf l s).toNat (at0 l s).toNat (at0 l s).toNat
structure zrK (H0:Heap) (c n:Nat) (d:Nat) (e:Nat→Value) (H:Heap) (j:Nat):Prop where
 h1:j≤n
 h2:d=n - j
 hk:Kp H0.next H0 H
 hA:Acc 3 1 H0.next H.next H (e 5) j (ivs (zft c n j))
 e6:e 6= .int .i64 (c:Int)
 e7:e 7= .int .i64 ((n:Int) - 1 - j)
theorem zqN {a:Option Addr} {c:Nat} {l:List Int} {s:Nat} (hl:Iv H a l) (hr:zaS l=true) (hs:s< l.length) (hp:0< at0 l s):
  Wf S 170 [.slice a l.length c,.int .i64 s] H fun r H'=>Kp H.next H H'∧Acc 3 1 H.next H'.next H' r (at0 l s).toNat (ivs (zcq l s)):=by
 have hlen:=za8 hr
 have hall:=zaY hr
 refine w170 rfl rfl _ _ ?_
 simp [s170]
 refine (zng hl hr).mono ?_
 rintro v H1 ⟨hk1,rfl,ho⟩
 have hl1:=hl.kp hk1
 obtain ⟨b,o,cs,rw,rfl,hg,hc⟩:=hl1 (by omega)
 obtain ⟨x,hx⟩:∃x,l[s]? =some x:=⟨_,List.getElem?_eq_getElem hs⟩
 have hcx:=hc _ x hx
 have hax:=at0_of hx
 have hxb:=hall s
 rw [hax] at hxb hp
 obtain ⟨n,hn⟩:∃n,n=x.toNat:=⟨_,rfl⟩
 have hcb:=zeK hall hlen (n:=x.toNat) (s:=s) (by omega) (by omega) (by omega)
 have hco:codeOf l s=zaw l x.toNat s:=by unfold codeOf;rw [hax,if_pos hp]
 rw [←hco] at hcb
 obtain ⟨q,hq⟩:∃q,q=(codeOf l s).toNat:=⟨_,rfl⟩
 have hqi:codeOf l s=(q:Int):=by omega
 have hcq:(ints (codes l))[s]? =some (.int .i64 (q:Int)):=by simp [ints,codes,hs,hqi]
 have hg1:H1.get H.next= .cells (ints (codes l)) 3 true:=ho
 have hxn:x=(n:Int):=by omega
 have w1:IntKind.i64.wrap (x - 1)=(n:Int) - 1:=by rw [wi (by omega) (by omega)];omega
 have hcB:zcq l s=zft q n n:=by unfold zcq;rw [hax,←hn,←hq]
 rw [hcB,hax,←hn]
 simp [hs,zac,hg1,hcq,hg,hcx,w1]
 refine l170_0 S (fun d e H'=>∃j,zrK H1 q n d e H' j) n ⟨0,by omega,by omega,Kp.refl _ _,by simpa [zft,ivs] using Acc.nil,by simp,by simp⟩ ?_
 rintro d e H' ⟨j,hj,rfl,hk,hA,e6,e7⟩
 by_cases h3:j< n
 ·obtain ⟨i,hi⟩:∃i,i=n - 1 - j:=⟨_,rfl⟩
  have hii:(n:Int) - 1 - j=(i:Int):=by omega
  rw [hii] at e7
  obtain ⟨D,hD⟩:∃D,D=q / 2 ^ i:=⟨_,rfl⟩
  obtain ⟨B,hB⟩:∃B,B=D % 2:=⟨_,rfl⟩
  have hDq:D≤q:=by rw [hD];exact Nat.div_le_self _ _
  have hpp:=p2_pos i
  have hp2:p2 i=((2 ^ i:Nat):Int):=by unfold p2;exact_mod_cast rfl
  have hdv:(q:Int).tdiv (p2 i)=(D:Int):=by rw [Int.tdiv_eq_ediv_of_nonneg (by omega),hp2,hD];exact_mod_cast rfl
  have hne:¬p2 i=0:=by omega
  have w2:IntKind.i64.wrap (D:Int)=D:=wi (by omega) (by omega)
  have w3:IntKind.i64.wrap ((i:Int) - 1)=(n:Int) - 1 - (j+1:Nat):=by rw [wi (by omega) (by omega)];omega
  have hm:(D:Int).tmod 2=(B:Int):=by rw [hB,Int.tmod_eq_emod_of_nonneg (by omega)];omega
  obtain ⟨v2,H2,hap,hA2,hn2,hk2⟩:=hA.app (bytes:=8) (new:= [.int .i64 (B:Int)]) hk.1 (Nat.le_refl _) rfl (by unfold zag;omega)
  simp [s170_0,e6,e7]
  refine (zcv H' i (by omega)).mono ?_
  rintro v H3 ⟨rfl,rfl⟩
  simp [e6,e7,hne,hdv,w2,hm,zaF,zaR,zay,cellsL,wr,zaP,rd,hap,w3]
  refine ⟨n - (j+1),by omega,j+1,by omega,rfl,⟨by have:=hk.1;omega,fun k hk'=>(hk2 k (by have:=hk.1;omega) (.inl hk')).trans (hk.2 k hk')⟩,?_,by simp [e6],by simp⟩
  rw [zlg,←hi,←hD,←hB]
  simpa [ivs] using hA2
 ·have h5:j=n:=by omega
  subst h5
  have hneg:(j:Int) - 1 - j=-1:=by omega
  rw [hneg] at e7
  simp [s170_0,e7]
  have hkk:Kp H.next H H':=hk1.trans (hk.mono hk1.1)
  refine ⟨hkk,?_⟩
  rcases hA with h|⟨b',c',q1,q2,q3,q4,q5,q6⟩
  ·exact .inl h
  ·exact .inr ⟨b',c',by have:=hk1.1;omega,q2,q3,q4,q5,q6⟩
end
theorem ze9 (s:Bytes):(zbu s).length=8*s.length:=by
 induction s with
 |nil=>rfl
 |cons x t ih=>
  have:zbu (x::t)=zcp x.toNat 8++zbu t:=rfl
  rw [this,List.length_append,ih,zcM,List.length_cons];omega
theorem zdP:∀(s:Bytes) (i:Nat),i< 8*s.length→(zbu s)[i]? =some ((za1 s i:Nat):Int)
 | [],i,h=>by simp at h
 |x::t,i,h=>by
  have e:zbu (x::t)=zcp x.toNat 8++zbu t:=rfl
  rw [e]
  rcases Nat.lt_or_ge i 8 with h8|h8
  ·rw [List.getElem?_append_left (by rw [zcM];exact h8)]
   have q1:i / 8=0:=by omega
   have q2:i % 8=i:=by omega
   simp [zcp,h8,za1,q1,q2]
  ·rw [List.getElem?_append_right (by rw [zcM];exact h8),zcM,zdP t (i - 8) (by rw [List.length_cons] at h;omega)]
   have q1:i / 8=(i - 8) / 8+1:=by omega
   have q2:i % 8=(i - 8) % 8:=by omega
   unfold za1
   rw [q1,q2,List.getD_cons_succ]
theorem zhC (s:Bytes) (a:Nat):∀n i,i< n→zb5 s a n / 2 ^ (n - 1 - i) % 2=za1 s (a+i)
 |0,i,h=>by omega
 |n+1,i,h=>by
  have hb:=zcd s (a+n)
  simp only [zb5]
  rcases Nat.lt_or_ge i n with h1|h1
  ·have e:n+1 - 1 - i=(n - 1 - i)+1:=by omega
   rw [e,Nat.pow_succ,Nat.mul_comm (2 ^ (n - 1 - i)),←Nat.div_div_eq_div_mul]
   have:(2*zb5 s a n+za1 s (a+n)) / 2=zb5 s a n:=by omega
   rw [this,zhC s a n i h1]
  ·have e:i=n:=by omega
   subst e
   have:i+1 - 1 - i=0:=by omega
   rw [this,Nat.pow_zero,Nat.div_one];omega
theorem zgp {s:Bytes} {a c n:Nat} (hc:c< 2 ^ n) (hn:a+n≤8*s.length):((zbu s).drop a).take n=zft c n n↔zb5 s a n=c:=by
 have hget:∀i,i< n→(((zbu s).drop a).take n)[i]? =some ((za1 s (a+i):Nat):Int):=fun i hi=>by
  rw [List.getElem?_take,if_pos hi,List.getElem?_drop,zdP s (a+i) (by omega)]
 have htop:∀i,i< n→(zft c n n)[i]? =some ((c / 2 ^ (n - 1 - i) % 2:Nat):Int):=fun i hi=>by simp [zft,hi]
 constructor
 ·intro h
  refine zmK (zfH s a n) hc fun k hk=>?_
  have h1:=hget (n - 1 - k) (by omega)
  rw [h,htop _ (by omega)] at h1
  have e:n - 1 - (n - 1 - k)=k:=by omega
  have h2:=zhC s a n (n - 1 - k) (by omega)
  rw [e] at h1 h2
  have h3:=Option.some.inj h1
  omega
 ·intro h
  apply List.ext_getElem?
  intro i
  rcases Nat.lt_or_ge i n with hi|hi
  ·rw [hget i hi,htop i hi,←h,zhC s a n i hi]
  ·rw [List.getElem?_eq_none (by rw [List.length_take];omega),List.getElem?_eq_none (by simp [zft];omega)]
def za4 (l:List Int) (n:Nat):Nat→Nat
 |0=>0
 |s+1=>za4 l n s+if at0 l s=n then 1 else 0
def zaK (l:List Int):Nat→Nat→Bytes
 |0,_=> []
 |n+1,0=>zaK l n l.length
 |n+1,s+1=>zaK l (n+1) s++if at0 l s=((n+1:Nat):Int) then [UInt8.ofNat s] else []
theorem zjt (l:List Int):zaw l 1 0=0:=by simp [zaw]
theorem zdQ (l:List Int) (n:Nat):∀s,za4 l n s≤s
 |0=>by simp [za4]
 |s+1=>by have:=zdQ l n s;simp only [za4];split<;>omega
theorem zc9 (l:List Int) (n:Nat):∀s,zaw l (n+1) s=zaw l (n+1) 0+za4 l (n+1) s
 |0=>by simp [za4]
 |s+1=>by
  have:=zc9 l n s
  simp only [zaw,za4] at*
  rw [this]
  have e:((n+1:Nat):Int)=(n:Int)+1:=by omega
  rw [e]
  split<;>omega
theorem zdR (l:List Int) (n:Nat):∀s,(zaK l (n+1) s).length=(zaK l (n+1) 0).length+za4 l (n+1) s
 |0=>by simp [za4]
 |s+1=>by
  have:=zdR l n s
  simp only [zaK,za4,List.length_append] at*
  rw [this]
  split<;>simp<;>omega
structure Rc (H0:Heap) (N:Nat) (F C St:Nat→Nat) (o:Bytes) (H:Heap) (cs:List Value) (ov:Value):Prop where
 kp:Kp N H0 H
 hx:H.get N= .cells cs 311 true
 len:cs.length=40
 f:∀n,n≤12→cs[n]? =some (.int .i64 (F n))
 c:∀n,n≤12→cs[13+n]? =some (.int .i64 (C n))
 s:∀n,n≤12→cs[26+n]? =some (.int .i64 (St n))
 od:cs[39]? =some ov
 a:Acc 5 1 (N+1) H.next H ov o.length (bvs o)
def zfu (F:Nat→Nat) (n v:Nat) (i:Nat):Nat:=if i=n then v else F i
section
variable {H0 H:Heap} {N:Nat} {F C St:Nat→Nat} {o:Bytes} {cs:List Value} {ov:Value}
theorem Rc.lt (h:Rc H0 N F C St o H cs ov):N< H.next:=zai h.hx
theorem Rc.st (h:Rc H0 N F C St o H cs ov) {j:Nat} (hj:j< 40) (v:Int):kSt H (.pointer (some ⟨N,j,none⟩)) (.int .i64 v)=some (H.put N (.cells (cs.set j (.int .i64 v)) 311 true)):=by
 simp [kSt,h.hx,h.len,hj,zaB]
theorem Rc.upd (h:Rc H0 N F C St o H cs ov) {j:Nat} {v:Value} {F' C' St':Nat→Nat}
  (hf:∀n,n≤12→(cs.set j v)[n]? =some (.int .i64 (F' n))) (hc:∀n,n≤12→(cs.set j v)[13+n]? =some (.int .i64 (C' n))) (hs:∀n,n≤12→(cs.set j v)[26+n]? =some (.int .i64 (St' n))) (hj:j< 39):
  Rc H0 N F' C' St' o (H.put N (.cells (cs.set j v) 311 true)) (cs.set j v) ov:=
 ⟨h.kp.trans (Kp.put (Nat.le_refl _)),zad h.lt,by simp [h.len],hf,hc,hs,by rw [List.getElem?_set_ne (by omega)];exact h.od,by
  rw [next_put];exact h.a.kp fun b hb _=>zaa (by omega)⟩
theorem Rc.setF (h:Rc H0 N F C St o H cs ov) {n:Nat} (hn:n≤12) (v:Nat):Rc H0 N (zfu F n v) C St o (H.put N (.cells (cs.set n (.int .i64 v)) 311 true)) (cs.set n (.int .i64 v)) ov:=
 h.upd (fun m hm=>by
  unfold zfu
  by_cases e:m=n
  ·subst e;rw [if_pos rfl,List.getElem?_set_self (by rw [h.len];omega)]
  ·rw [if_neg e,List.getElem?_set_ne (by omega)];exact h.f m hm)
  (fun m hm=>by rw [List.getElem?_set_ne (by omega)];exact h.c m hm) (fun m hm=>by rw [List.getElem?_set_ne (by omega)];exact h.s m hm) (by omega)
theorem Rc.setC (h:Rc H0 N F C St o H cs ov) {n:Nat} (hn:n≤12) (v:Nat):Rc H0 N F (zfu C n v) St o (H.put N (.cells (cs.set (13+n) (.int .i64 v)) 311 true)) (cs.set (13+n) (.int .i64 v)) ov:=
 h.upd (fun m hm=>by rw [List.getElem?_set_ne (by omega)];exact h.f m hm) (fun m hm=>by
  unfold zfu
  by_cases e:m=n
  ·subst e;rw [if_pos rfl,List.getElem?_set_self (by rw [h.len];omega)]
  ·rw [if_neg e,List.getElem?_set_ne (by omega)];exact h.c m hm)
  (fun m hm=>by rw [List.getElem?_set_ne (by omega)];exact h.s m hm) (by omega)
theorem Rc.setS (h:Rc H0 N F C St o H cs ov) {n:Nat} (hn:n≤12) (v:Nat):Rc H0 N F C (zfu St n v) o (H.put N (.cells (cs.set (26+n) (.int .i64 v)) 311 true)) (cs.set (26+n) (.int .i64 v)) ov:=
 h.upd (fun m hm=>by rw [List.getElem?_set_ne (by omega)];exact h.f m hm) (fun m hm=>by rw [List.getElem?_set_ne (by omega)];exact h.c m hm) (fun m hm=>by
  unfold zfu
  by_cases e:m=n
  ·subst e;rw [if_pos rfl,List.getElem?_set_self (by rw [h.len];omega)]
  ·rw [if_neg e,List.getElem?_set_ne (by omega)];exact h.s m hm) (by omega)
theorem Rc.one (h:Rc H0 N F C St o H cs ov) (x:UInt8) (hl:o.length≤100000):∃v' H1 H2,zbk (H.push (.cells [bv x] 5 true)) 5 1 1 ov 1 [bv x]=some (v',H1)∧H1.get N= .cells cs 311 true∧
  kSt H1 (.pointer (some ⟨N,39,none⟩)) v'=some H2∧Rc H0 N F C St (o++ [x]) H2 (cs.set 39 v') v':=by
 have hlt:=h.lt
 obtain ⟨v',H1,e1,hA,hn,hk⟩:=h.a.app (bytes:=1) (new:= [bv x]) (by omega) (Nat.le_refl _) rfl (by unfold zag;omega)
 have hg:H1.get N= .cells cs 311 true:=(hk N hlt (.inl (by omega))).trans h.hx
 have ho:zaB v'=true:=by
  obtain ⟨a,c,rfl,_⟩:=hA.len
  rfl
 refine ⟨v',H1,H1.put N (.cells (cs.set 39 v') 311 true),e1,hg,by simp [kSt,hg,h.len,ho],?_⟩
 refine ⟨h.kp.trans (Kp.trans ⟨by omega,fun k hk'=>hk k (by omega) (.inl (by omega))⟩ (Kp.put (Nat.le_refl _))),zad (by omega),by simp [h.len],?_,?_,?_,?_,?_⟩
 ·intro n hn;rw [List.getElem?_set_ne (by omega)];exact h.f n hn
 ·intro n hn;rw [List.getElem?_set_ne (by omega)];exact h.c n hn
 ·intro n hn;rw [List.getElem?_set_ne (by omega)];exact h.s n hn
 ·rw [List.getElem?_set_self (by rw [h.len];omega)]
 ·rw [next_put]
  have:=hA.kp (H':=H1.put N (.cells (cs.set 39 v') 311 true)) fun b hb _=>zaa (by omega)
  simpa [bvs] using this
structure RdI (H0:Heap) (a:Option Addr) (c:Nat) (l:List Int) (F St:Nat→Nat) (n s:Nat) (e:Fe) (H:Heap):Prop where
 r:∃cs ov,Rc H0 H0.next F (fun i=>if 1≤i∧i< n then za4 l i l.length else if i=n then za4 l n s else 0) St (zaK l n s) H cs ov
 e0:e 0= .slice a l.length c
 e3:e 3= .pointer (some ⟨H0.next,0,none⟩)
 e4:e 4= .int .i64 (zaw l n 0)
 e5:e 5= .int .i64 n
end
section
variable {H:Heap} {a:Option Addr} {c:Nat} {l:List Int}
theorem zee {l:List Int} {n:Nat} (h:1≤n) (s:Nat):zaK l n (s+1)=zaK l n s++if at0 l s=n then [UInt8.ofNat s] else []:=by
 obtain ⟨m,rfl⟩:∃m,n=m+1:=⟨n - 1,by omega⟩
 simp only [zaK]
theorem ziC {l:List Int}:∀n,(zaK l (n+1) 0).length+za4 l (n+1) l.length=(zaK l (n+2) 0).length:=fun n=>by
 rw [←zdR l n l.length];simp [zaK]
structure RdJ (H0:Heap) (a:Option Addr) (c:Nat) (l:List Int) (F St:Nat→Nat) (n d s:Nat) (e:Fe) (H:Heap):Prop where
 h1:s≤l.length
 h2:d=l.length - s
 i:RdI H0 a c l F St n s e H
 e30:e 30= .slice a l.length c
 e31:e 31= .int .i64 l.length
 e32:e 32= .int .i64 s
theorem zlh {H0:Heap} {F St:Nat→Nat} {n:Nat} {e:Fe} {H:Heap} {Q:Kx} (hl:Iv H0 a l) (hlen:l.length≤256) (hord:∀s,s≤l.length→(zaK l n s).length≤100000) (h1:1≤n) (h2:n≤11)
  (hc:RdI H0 a c l F St n 0 e H) (e30:e 30= .slice a l.length c) (e31:e 31= .int .i64 l.length) (e32:e 32= .int .i64 0)
  (hQ:∀e' H',RdI H0 a c l F St n l.length e' H'→Q (.exit 2) e' H'):WL S b235_1 e H Q:=by
 refine l235_1 S (fun d e H=>∃s:Nat,RdJ H0 a c l F St n d s e H) l.length ⟨0,by omega,by omega,hc,e30,e31,e32⟩ ?_
 rintro d e H ⟨s,hs,rfl,⟨⟨cs,ov,hr⟩,e0,e3,e4,e5⟩,e30,e31,e32⟩
 by_cases h3:s< l.length
 ·obtain ⟨b,o,cs0,rw,rfl,hg0,hcs⟩:=hl (by omega)
  have hg:=(hr.kp.2 b (zai hg0)).trans hg0
  obtain ⟨x,hx⟩:∃x,l[s]? =some x:=⟨_,List.getElem?_eq_getElem h3⟩
  have hcx:=hcs s x hx
  have hax:=at0_of hx
  have hw:IntKind.i64.wrap ((s:Int)+1)=(s:Int)+1:=wi (by omega) (by omega)
  have hos:zaK l n (s+1)=zaK l n s++if at0 l s=n then [UInt8.ofNat s] else []:=zee h1 s
  have hcs':∀i,(if 1≤i∧i< n then za4 l i l.length else if i=n then za4 l n (s+1) else 0)=zfu (fun i=>if 1≤i∧i< n then za4 l i l.length else if i=n then za4 l n s else 0) n (za4 l n (s+1)) i:=by
   intro i
   unfold zfu
   by_cases e:i=n
   ·subst e;simp
   ·simp [e]
  by_cases g:x=n
  ·have hu:IntKind.u8.wrap (s:Int)=((UInt8.ofNat s).toNat:Int):=by
    have h1:s % 256=s:=Nat.mod_eq_of_lt (by omega)
    have h2:(UInt8.ofNat s).toNat=s:=by simp [h1]
    rw [h2];simp [IntKind.wrap,IntKind.signed,IntKind.bits];omega
   obtain ⟨v',H1,H2,a1,a2,a3,a4⟩:=hr.one (UInt8.ofNat s) (hord s hs)
   have hcn:=a4.c n (by omega)
   have hle:=zdQ l n s
   simp at hcn
   have hr2:=a4.setC (n:=n) (by omega) (za4 l n (s+1))
   have hst:=a4.st (j:=13+n) (by omega) ((za4 l n (s+1):Nat):Int)
   have hgx:=a4.hx
   have hc1:za4 l n (s+1)=za4 l n s+1:=by simp [za4,hax,g]
   have w2:IntKind.i64.wrap ((za4 l n s:Int)+1)=((za4 l n (s+1):Nat):Int):=by rw [wi (by omega) (by omega)];omega
   have m13:n< 13:=by omega
   have m13':(n:Int)< 13:=by omega
   have hxx:=hr.hx
   have hod:=hr.od
   obtain ⟨HH,hHH⟩:∃HH,HH=H2.put H0.next (.cells ((cs.set 39 v').set (13+n) (.int .i64 ((za4 l n (s+1):Nat):Int))) 311 true):=⟨_,rfl⟩
   rw [←hHH] at hst hr2
   obtain ⟨u,hu'⟩:∃u:UInt8,u=UInt8.ofNat s:=⟨_,rfl⟩
   rw [←hu'] at hu a1 a4 hr2
   unfold bv at a1
   obtain ⟨q,hq⟩:∃q,q=u.toNat:=⟨_,rfl⟩
   rw [←hq] at hu a1
   simp only [s235_1]
   simp [e0,e3,e4,e5,e30,e31,e32,h3,zac,hg,hcx,hw,hxx,hod,g,hu,m13,m13',a1,a2,a3,hgx,zaF,zaR,zay,cellsL,wr,zaP,rd,hcn,w2,hst]
   refine ⟨l.length - (s+1),by omega,s+1,by omega,rfl,⟨⟨(cs.set 39 v').set (13+n) (.int .i64 ((za4 l n (s+1):Nat):Int)),v',?_⟩,by simp [e0],by simp [e3],by simp [e4],by simp [e5]⟩,by simp [e30],by simp [e31],by simp⟩
   rw [hos,if_pos (by rw [hax,g]),←hu']
   have:=funext hcs'
   rw [this];exact hr2
  ·have hc1:za4 l n (s+1)=za4 l n s:=by simp [za4,hax,g]
   simp [s235_1,e0,e3,e4,e5,e30,e31,e32,h3,zac,hg,hcx,g,hw]
   refine ⟨l.length - (s+1),by omega,s+1,by omega,rfl,⟨⟨cs,ov,?_⟩,by simp [e0],by simp [e3],by simp [e4],by simp [e5]⟩,by simp [e30],by simp [e31],by simp⟩
   rw [hos,if_neg (by rw [hax];exact g),List.append_nil,hc1];exact hr
 ·have h5:s=l.length:=by omega
  subst h5
  simp [s235_1,e31,e32]
  exact hQ _ _ ⟨⟨cs,ov,hr⟩,e0,e3,e4,e5⟩
theorem zgq {l:List Int} (hlen:l.length≤256):∀n,(zaK l n 0).length≤256*n
 |0=>by simp [zaK]
 |1=>by simp [zaK]
 |n+2=>by
  have h1:=zgq hlen (n+1)
  have h2:=ziC (l:=l) n
  have h3:=zdQ l (n+1) l.length
  omega
theorem zli {l:List Int} (hlen:l.length≤256) {n s:Nat} (h1:1≤n) (hs:s≤l.length):(zaK l n s).length≤256*n+256:=by
 obtain ⟨m,rfl⟩:∃m,n=m+1:=⟨n - 1,by omega⟩
 have h1:=zgq hlen (m+1)
 have h2:=zdR l m s
 have h3:=zdQ l (m+1) s
 omega
def Fq (l:List Int) (n i:Nat):Nat:=if 1≤i∧i< n then (zaw l i 0).toNat else 0
def Cq (l:List Int) (n i:Nat):Nat:=if 1≤i∧i< n then za4 l i l.length else 0
def Sq (l:List Int) (n i:Nat):Nat:=if 1≤i∧i< n then (zaK l i 0).length else 0
theorem zpk {f:Nat→Nat} {n:Nat} (h:1≤n):zfu (fun i=>if 1≤i∧i< n then f i else 0) n (f n)=fun i=>if 1≤i∧i< n+1 then f i else 0:=by
 funext i
 unfold zfu
 by_cases e:i=n
 ·subst e;rw [if_pos rfl,if_pos (by omega)]
 ·rw [if_neg e]
  show (if 1≤i∧i< n then f i else 0)=_
  by_cases h2:1≤i∧i< n
  ·rw [if_pos h2,if_pos (by omega)]
  ·rw [if_neg h2,if_neg (by omega)]
structure RdO (H0:Heap) (a:Option Addr) (c:Nat) (l:List Int) (d n:Nat) (e:Fe) (H:Heap):Prop where
 h1:1≤n
 h2:n≤12
 h3:d=12 - n
 r:∃cs ov,Rc H0 H0.next (Fq l n) (Cq l n) (Sq l n) (zaK l n 0) H cs ov
 e0:e 0= .slice a l.length c
 e3:e 3= .pointer (some ⟨H0.next,0,none⟩)
 e4:e 4= .int .i64 (zaw l n 0)
 e5:e 5= .int .i64 n
theorem zoJ (hl:Iv H a l) (hr:zaS l=true):Wf S 235 [.slice a l.length c] H fun v H'=>v= .pointer (some ⟨H.next,0,none⟩)∧∃cs ov,Rc H H.next (Fq l 12) (Cq l 12) (Sq l 12) (zaK l 12 0) H' cs ov:=by
 have hlen:=za8 hr
 have hall:=zaY hr
 refine w235 rfl rfl _ ?_
 simp [s235,zaF,zaR,zay,cellsL,wr]
 refine l235_0 S (fun d e H'=>∃n,RdO H a c l d n e H') 11 ⟨1,by omega,by omega,by omega,⟨_,.slice none 0 0,Kp.push (Nat.le_refl _),zaf,rfl,?_,?_,?_,rfl,by simpa [zaK,bvs] using Acc.nil⟩,by simp,by simp,by simp [zjt],by simp⟩ ?_
 ·intro n hn
  have:Fq l 1 n=0:=by unfold Fq;rw [if_neg (by omega)]
  rw [this]
  have:n=0∨n=1∨n=2∨n=3∨n=4∨n=5∨n=6∨n=7∨n=8∨n=9∨n=10∨n=11∨n=12:=by omega
  rcases this with rfl|rfl|rfl|rfl|rfl|rfl|rfl|rfl|rfl|rfl|rfl|rfl|rfl<;>rfl
 ·intro n hn
  have:Cq l 1 n=0:=by unfold Cq;rw [if_neg (by omega)]
  rw [this]
  have:n=0∨n=1∨n=2∨n=3∨n=4∨n=5∨n=6∨n=7∨n=8∨n=9∨n=10∨n=11∨n=12:=by omega
  rcases this with rfl|rfl|rfl|rfl|rfl|rfl|rfl|rfl|rfl|rfl|rfl|rfl|rfl<;>rfl
 ·intro n hn
  have:Sq l 1 n=0:=by unfold Sq;rw [if_neg (by omega)]
  rw [this]
  have:n=0∨n=1∨n=2∨n=3∨n=4∨n=5∨n=6∨n=7∨n=8∨n=9∨n=10∨n=11∨n=12:=by omega
  rcases this with rfl|rfl|rfl|rfl|rfl|rfl|rfl|rfl|rfl|rfl|rfl|rfl|rfl<;>rfl
 rintro d e H' ⟨n,h1,h2,rfl,⟨cs,ov,hr0⟩,e0,e3,e4,e5⟩
 by_cases h3:n≤11
 ·have h3':(n:Int)≤11:=by omega
  have hcb:=zeK hall hlen h1 h3 (Nat.zero_le l.length)
  obtain ⟨k,hk⟩:∃k:Nat,zaw l n 0=(k:Int):=⟨(zaw l n 0).toNat,by omega⟩
  obtain ⟨a1,c1,rfl,_⟩:=hr0.a.len
  have r1:=hr0.setF (n:=n) (by omega) (zaw l n 0).toNat
  have s1:=hr0.st (j:=n) (by omega) (zaw l n 0)
  have ek:(((zaw l n 0).toNat:Nat):Int)=zaw l n 0:=by omega
  have uF:zfu (Fq l n) n (zaw l n 0).toNat=Fq l (n+1):=zpk (f:=fun i=>(zaw l i 0).toNat) h1
  rw [uF,ek] at r1
  obtain ⟨H1,hH1⟩:∃H1,H1=H'.put H.next (.cells (cs.set n (.int .i64 (zaw l n 0))) 311 true):=⟨_,rfl⟩
  rw [←hH1] at r1 s1
  obtain ⟨cs1,hcs1⟩:∃cs1,cs1=cs.set n (.int .i64 (zaw l n 0)):=⟨_,rfl⟩
  rw [←hcs1] at r1
  have r2:=r1.setS (n:=n) (by omega) (zaK l n 0).length
  have s2:=r1.st (j:=26+n) (by omega) (((zaK l n 0).length:Nat):Int)
  have uS:zfu (Sq l n) n (zaK l n 0).length=Sq l (n+1):=zpk (f:=fun i=>(zaK l i 0).length) h1
  rw [uS] at r2
  obtain ⟨H2,hH2⟩:∃H2,H2=H1.put H.next (.cells (cs1.set (26+n) (.int .i64 (((zaK l n 0).length:Nat):Int))) 311 true):=⟨_,rfl⟩
  rw [←hH2] at r2 s2
  have hC:Cq l n=fun i=>if 1≤i∧i< n then za4 l i l.length else if i=n then za4 l n 0 else 0:=by
   funext i
   unfold Cq
   by_cases e:i=n
   ·subst e;simp [za4]
   ·simp [e]
  rw [hC] at r2
  have hxx:=hr0.hx
  have hod:=hr0.od
  have n13:n< 13:=by omega
  have n13':(n:Int)< 13:=by omega
  simp [s235_0,e0,e3,e4,e5,h3,h3',zac,hxx,hod,n13,n13',s1,s2]
  refine zlh (H0:=H) (a:=a) (c:=c) (l:=l) (F:=Fq l (n+1)) (St:=Sq l (n+1)) (n:=n) hl hlen (fun s hs=>by have:=zli hlen h1 hs;omega) h1 h3 ⟨⟨_,_,r2⟩,by simp [e0],by simp [e3],by simp [e4],by simp [e5]⟩ (by simp) (by simp) (by simp) ?_
  rintro e' H3 ⟨⟨cs3,ov3,r3⟩,e0,e3,e4,e5⟩
  have hC3:(fun i=>if 1≤i∧i< n then za4 l i l.length else if i=n then za4 l n l.length else 0)=Cq l (n+1):=by
   funext i
   unfold Cq
   by_cases e:i=n
   ·subst e;simp [h1]
   ·by_cases h2:1≤i∧i< n
    ·rw [if_pos h2,if_pos (by omega)]
    ·rw [if_neg h2,if_neg e,if_neg (by omega)]
  rw [hC3] at r3
  have hc3:=r3.c n (by omega)
  have hq3:Cq l (n+1) n=za4 l n l.length:=by unfold Cq;rw [if_pos (by omega)]
  rw [hq3] at hc3
  have hx3:=r3.hx
  have hle:=zdQ l n l.length
  obtain ⟨m,rfl⟩:∃m,n=m+1:=⟨n - 1,by omega⟩
  have hcc:=zc9 l m l.length
  have hnx:zaw l (m+1+1) 0=2*zaw l (m+1) l.length:=by simp [zaw]
  have hox:zaK l (m+1+1) 0=zaK l (m+1) l.length:=by simp [zaK]
  have w1:IntKind.i64.wrap (zaw l (m+1) 0+(za4 l (m+1) l.length:Nat))=zaw l (m+1) 0+(za4 l (m+1) l.length:Nat):=wi (by omega) (by omega)
  have o1:zau .shl (.int .i64 (zaw l (m+1) 0+(za4 l (m+1) l.length:Nat))) (.int .u64 1)=some (.int .i64 (zaw l (m+1+1) 0)):=by
   rw [zcf,if_neg (by omega)]
   have hm:min (1:Int).toNat IntKind.i64.bits=1:=by decide
   rw [hm,wi (by omega) (by omega)]
   congr 2;omega
  have w2:IntKind.i64.wrap (((m+1:Nat):Int)+1)=((m+1+1:Nat):Int):=by rw [wi (by omega) (by omega)];omega
  generalize hn:m+1=n at*
  have n13'':(n:Int)< 13:=by omega
  simp [e0,e3,e4,e5,zac,hx3,n13,n13'',hc3,w1,o1,w2]
  refine ⟨12 - (n+1),by omega,n+1,by omega,by omega,rfl,⟨cs3,ov3,?_⟩,by simp [e0],by simp [e3],by simp,by simp⟩
  rw [hox];exact r3
 ·have h5:n=12:=by omega
  subst h5
  simp [s235_0,e3,e5]
  exact ⟨cs,ov,hr0⟩
end
theorem Acc.set {t N M n:Nat} {H:Heap} {v:Value} {cs:List Value} (h:Acc t 1 N M H v n cs) {i:Nat} (hi:i< n) {x:Value} (hx:zaB x=true):
  ∃b c,v= .slice (some ⟨b,0,none⟩) n c∧N≤b∧b< M∧H.get b= .cells cs t true∧kSt H (.pointer (some ⟨b,i,none⟩)) x=some (H.put b (.cells (cs.set i x) t true))∧Acc t 1 N M (H.put b (.cells (cs.set i x) t true)) v n (cs.set i x):=by
 rcases h with ⟨rfl,rfl,rfl⟩|⟨b,c,h1,h2,h3,h4,h5,h6⟩
 ·omega
 ·have hb:=zai h5
  refine ⟨b,c,h3,h1,h2,h5,?_,.inr ⟨b,c,h1,h2,h3,h4,zad hb,by rw [List.length_set];exact h6⟩⟩
  have:i< cs.length:=by omega
  simp [kSt,h5,this,hx]
theorem wu8 {x:Int} (h0:0≤x) (h1:x< 256):IntKind.u8.wrap x=x:=by
 simp [IntKind.wrap,IntKind.signed,IntKind.bits];omega
structure Wr (H:Heap) (w V n:Nat) (sv:Value):Prop where
 hx:H.get w=BwB sv n
 a:Acc 5 1 (w+1) H.next H sv ((n+7) / 8) (bvs (zpi V n))
 hV:V< 2 ^ n
section
variable {H:Heap} {w V n:Nat}
theorem Wr.open {sv:Value} (h:Wr H w V n sv) (hn:n≤1000000) (h0:n % 8=0):∃v' H1,zbk (H.push (.cells [.int .u8 0] 5 true)) 5 1 1 sv 1 [.int .u8 0]=some (v',H1)∧zaB v'=true∧H1.get w=BwB sv n∧
  Kp w H H1∧w< H1.next∧Acc 5 1 (w+1) H1.next H1 v' (n / 8+1) (bvs (zpi V n++ [0])):=by
 have hlt:w< H.next:=zai h.hx
 obtain ⟨v',H1,e1,hA,hn1,hk⟩:=h.a.app (bytes:=1) (new:= [.int .u8 0]) (by omega) (Nat.le_refl _) rfl (by unfold zag;omega)
 have ho:zaB v'=true:=by
  obtain ⟨a,c,rfl,_⟩:=hA.len
  rfl
 refine ⟨v',H1,e1,ho,(hk w hlt (.inl (by omega))).trans h.hx,⟨by omega,fun k hk'=>hk k (by omega) (.inl (by omega))⟩,by omega,?_⟩
 have e:n / 8+1=(n+7) / 8+1:=by omega
 rw [e]
 simpa [bvs,bv] using hA
end
def Bv (H:Heap) (a:Option Addr) (l:Bytes):Prop:=0< l.length→∃b o cs rw,a=some ⟨b,o,none⟩∧H.get b= .cells cs 5 rw∧∀(i:Nat) x,l[i]? =some x→cs[o+i]? =some (bv x)
theorem Bv.kp {H H':Heap} {a:Option Addr} {l:Bytes} (h:Bv H a l) (hk:Kp H.next H H'):Bv H' a l:=fun hp=>by
 obtain ⟨b,o,cs,rw,h1,h2,h3⟩:=h hp
 exact ⟨b,o,cs,rw,h1,(hk.2 b (zai h2)).trans h2,h3⟩
def znh (l:List Int) (b:Bytes):List Int:=b.flatMap fun x=>zcq l x.toNat
def okB (l:List Int) (b:Bytes):Prop:=∀x∈b,0< at0 l x.toNat
theorem zfa {l:List Int} {s:Nat}:(zcq l s).length=(at0 l s).toNat:=by simp [zcq,zft]
section
variable {H:Heap} {a a2:Option Addr} {c c2:Nat} {l:List Int} {b:Bytes}
end
theorem zhD {l:List Int} {i:Nat} {x:Int} (h:l[i]? =some x):(ivs l)[i]? =some (.int .i64 x):=by simp [ivs,h]
theorem Acc.iv {N M n:Nat} {H:Heap} {v:Value} {l:List Int} (h:Acc 3 1 N M H v n (ivs l)):∃a c,v= .slice a n c∧n=l.length∧Iv H a l:=by
 rcases h with ⟨rfl,h2,rfl⟩|⟨b,c,h1,h2,h3,h4,h5,h6⟩
 ·have:l= []:=by simpa [ivs] using h2
  subst this
  exact ⟨none,0,rfl,rfl,fun hp=>by simp at hp⟩
 ·exact ⟨_,c,h3,by simpa [ivs] using h6.symm,fun _=>⟨b,0,_,true,rfl,h5,fun i x hx=>by rw [Nat.zero_add];exact zhD hx⟩⟩
end Go.Proofs.YtjgpbhodbgjggaaGreat.K
namespace Go.Proofs.YtjgpbhodbgjggaaGreat.K
open Go Go.Proofs
def Beg (l:List Int) (s:Bytes) (a k:Nat):Prop:=k< l.length∧0< at0 l k∧a+(at0 l k).toNat≤8*s.length∧zb5 s a (at0 l k).toNat=(codeOf l k).toNat
theorem zko (s:Bytes) (a n:Nat):∀m,zb5 s a (n+m) / 2 ^ m=zb5 s a n
 |0=>by simp
 |m+1=>by
  have hb:=zcd s (a+(n+m))
  rw [←Nat.add_assoc,Nat.pow_succ,Nat.mul_comm (2 ^ m),←Nat.div_div_eq_div_mul]
  simp only [zb5]
  have:(2*zb5 s a (n+m)+za1 s (a+(n+m))) / 2=zb5 s a (n+m):=by omega
  rw [this,zko s a n m]
theorem zhE {l:List Int} (hall:∀k,0≤at0 l k∧at0 l k≤11) (hlen:l.length≤256) {k:Nat} (hk:k< l.length):0≤codeOf l k:=by
 unfold codeOf
 split
 ·rename_i h
  have:=hall k
  exact (zeK hall hlen (n:=(at0 l k).toNat) (s:=k) (by omega) (by omega) (by omega)).1
 ·omega
theorem zni {l:List Int} (hr:zaS l=true) {s:Bytes} {a k k':Nat} (h:Beg l s a k) (h':Beg l s a k') (hle:at0 l k≤at0 l k'):k=k':=by
 have hall:=zaY hr
 have hlen:=za8 hr
 obtain ⟨h1,h2,h3,h4⟩:=h
 obtain ⟨q1,q2,q3,q4⟩:=h'
 by_cases hne:k=k'
 ·exact hne
 ·exfalso
  have hp:=zqm hall h1 q1 h2 q2 hle hne
  have c1:=zhE hall hlen h1
  have c2:=zhE hall hlen q1
  apply hp
  have hd:=zko s a (at0 l k).toNat (at0 l k' - at0 l k).toNat
  have e:(at0 l k).toNat+(at0 l k' - at0 l k).toNat=(at0 l k').toNat:=by omega
  rw [e,q4,h4] at hd
  have hpp:=p2_pos (at0 l k' - at0 l k).toNat
  rw [Int.fdiv_eq_ediv_of_nonneg _ (by omega)]
  have e2:p2 (at0 l k' - at0 l k).toNat=((2 ^ (at0 l k' - at0 l k).toNat:Nat):Int):=by unfold p2;exact_mod_cast rfl
  rw [e2]
  have e3:codeOf l k'=((codeOf l k').toNat:Int):=by omega
  rw [e3,←Int.natCast_ediv,hd];omega
theorem znj {l:List Int} (hr:zaS l=true) {s:Bytes} {a k k':Nat} (h:Beg l s a k) (h':Beg l s a k'):k=k':=by
 rcases Int.le_total (at0 l k) (at0 l k') with hle|hle
 ·exact zni hr h h' hle
 ·exact (zni hr h' h hle).symm
theorem znk {l:List Int} {n:Nat}:∀s j,j< za4 l n s→∃k,k< s∧at0 l k=n∧za4 l n k=j
 |0,j,h=>by simp [za4] at h
 |s+1,j,h=>by
  simp only [za4] at h
  by_cases h1:j< za4 l n s
  ·obtain ⟨k,q1,q2,q3⟩:=znk s j h1
   exact ⟨k,by omega,q2,q3⟩
  ·split at h
   ·rename_i he
    exact ⟨s,by omega,he,by omega⟩
   ·omega
theorem cnt_lt {l:List Int} {n:Nat} {k:Nat} (he:at0 l k=n):∀s,k< s→za4 l n k< za4 l n s
 |0,h=>by omega
 |s+1,h=>by
  simp only [za4]
  by_cases h1:k=s
  ·subst h1;rw [if_pos he];omega
  ·have:=cnt_lt he s (by omega)
   omega
theorem zhF {l:List Int} {n:Nat} (h1:1≤n) (s:Nat):∀t,zaK l n s<+:zaK l n (s+t)
 |0=>List.prefix_refl _
 |t+1=>(zhF h1 s t).trans (by rw [←Nat.add_assoc,zee h1];exact List.prefix_append _ _)
theorem ziD {l:List Int} (n:Nat):zaK l (n+1) 0=zaK l n l.length:=by simp [zaK]
theorem zgr {l:List Int} {n:Nat} (h1:1≤n):∀m,zaK l (n+1) 0<+:zaK l (n+1+m) 0
 |0=>List.prefix_refl _
 |m+1=>(zgr h1 m).trans (by
  rw [←Nat.add_assoc,ziD (n+1+m)]
  have:=zhF (l:=l) (n:=n+1+m) (by omega) 0 l.length
  rw [Nat.zero_add] at this;exact this)
theorem zqO {l:List Int} {n k:Nat} (h1:1≤n) (h2:n≤11) (hk:k< l.length) (he:at0 l k=n):(zaK l 12 0)[(zaK l n 0).length+za4 l n k]? =some (UInt8.ofNat k):=by
 have e1:(zaK l n 0).length+za4 l n k=(zaK l n k).length:=by
  obtain ⟨m,rfl⟩:∃m,n=m+1:=⟨n - 1,by omega⟩
  exact (zdR l m k).symm
 have e2:zaK l n (k+1)<+:zaK l 12 0:=by
  obtain ⟨t,ht⟩:=Nat.exists_eq_add_of_le (show k+1≤l.length by omega)
  have p1:=zhF (l:=l) h1 (k+1) t
  rw [←ht,←ziD] at p1
  obtain ⟨m,hm⟩:=Nat.exists_eq_add_of_le (show n+1≤12 by omega)
  have p2:=zgr (l:=l) h1 m
  rw [←hm] at p2
  exact p1.trans p2
 rw [e1]
 obtain ⟨r,hr⟩:=e2
 rw [←hr,zee h1,if_pos he]
 simp
theorem zoK {l:List Int} (hr:zaS l=true) {s:Bytes} {a n:Nat} (h1:1≤n) (h2:n≤11) (hn:a+n≤8*s.length) (h:Hit (Fq l 12) (Cq l 12) s a n):
  ∃k,Beg l s a k∧at0 l k=n∧(zaK l 12 0).getD (Sq l 12 n+(zb5 s a n - Fq l 12 n)) 0=UInt8.ofNat k:=by
 have hall:=zaY hr
 have hlen:=za8 hr
 have f1:Fq l 12 n=(zaw l n 0).toNat:=by unfold Fq;rw [if_pos (by omega)]
 have f2:Cq l 12 n=za4 l n l.length:=by unfold Cq;rw [if_pos (by omega)]
 have f3:Sq l 12 n=(zaK l n 0).length:=by unfold Sq;rw [if_pos (by omega)]
 obtain ⟨q1,q2⟩:=h
 rw [f1,f2] at q2
 rw [f1] at q1
 obtain ⟨k,k1,k2,k3⟩:=znk (l:=l) (n:=n) l.length (zb5 s a n - (zaw l n 0).toNat) (by omega)
 have hb:=zeK hall hlen h1 h2 (Nat.zero_le l.length)
 refine ⟨k,⟨k1,by rw [k2];omega,by rw [k2];omega,?_⟩,k2,?_⟩
 ·have e:(at0 l k).toNat=n:=by omega
  have hc:codeOf l k=zaw l n k:=by unfold codeOf;rw [if_pos (by omega),e]
  obtain ⟨m,rfl⟩:∃m,n=m+1:=⟨n - 1,by omega⟩
  rw [e,hc,zc9,k3];omega
 ·rw [f1,f3,←k3,List.getD_eq_getElem?_getD,zqO h1 h2 k1 k2];rfl
theorem zoL {l:List Int} (hr:zaS l=true) {s:Bytes} {a k:Nat} (h:Beg l s a k):Hit (Fq l 12) (Cq l 12) s a (at0 l k).toNat:=by
 have hall:=zaY hr
 have hlen:=za8 hr
 obtain ⟨h1,h2,h3,h4⟩:=h
 have hk:=hall k
 obtain ⟨n,hn⟩:∃n,n=(at0 l k).toNat:=⟨_,rfl⟩
 have hat:at0 l k=n:=by omega
 rw [←hn] at h4⊢
 have f1:Fq l 12 n=(zaw l n 0).toNat:=by unfold Fq;rw [if_pos (by omega)]
 have f2:Cq l 12 n=za4 l n l.length:=by unfold Cq;rw [if_pos (by omega)]
 have hc:codeOf l k=zaw l n k:=by unfold codeOf;rw [if_pos (by omega),←hn]
 have hb:=zeK hall hlen (n:=n) (by omega) (by omega) (Nat.zero_le l.length)
 have hl:=cnt_lt hat l.length h1
 obtain ⟨m,rfl⟩:∃m,n=m+1:=⟨n - 1,by omega⟩
 have:=zc9 l m k
 unfold Hit
 rw [f1,f2,h4,hc,this]
 omega
open Classical in
noncomputable def zdV (l:List Int) (s:Bytes):Nat→Option (Bytes×Nat)
 |0=>some ([],0)
 |i+1=>(zdV l s i).bind fun p=>if h:∃k,Beg l s p.2 k then some (p.1++ [UInt8.ofNat h.choose],p.2+(at0 l h.choose).toNat) else none
theorem ziE {l:List Int} (hr:zaS l=true) {s:Bytes} {i a k:Nat} {d:Bytes} (h:zdV l s i=some (d,a)) (hb:Beg l s a k):zdV l s (i+1)=some (d++ [UInt8.ofNat k],a+(at0 l k).toNat):=by
 have hx:∃k,Beg l s a k:=⟨k,hb⟩
 have e:hx.choose=k:=znj hr hx.choose_spec hb
 simp only [zdV,h,Option.bind_some]
 rw [dif_pos hx,e]
theorem zgW {l:List Int} {s:Bytes} {i a:Nat} {d:Bytes} (h:zdV l s i=some (d,a)) (hb:∀k,¬Beg l s a k):zdV l s (i+1)=none:=by
 simp only [zdV,h,Option.bind_some]
 rw [dif_neg (fun ⟨k,hk⟩=>hb k hk)]
theorem zfb {l:List Int} {s:Bytes} {i:Nat} (h:zdV l s i=none):∀m,zdV l s (i+m)=none
 |0=>h
 |m+1=>by
  have:=zfb h m
  rw [←Nat.add_assoc]
  simp only [zdV,this,Option.bind_none]
theorem zeO {l:List Int} (hr:zaS l=true) {s:Bytes}:∀i d a,zdV l s i=some (d,a)→d.length=i∧a≤8*s.length∧(zbu s).take a=znh l d∧okB l d
 |0,d,a,h=>by simp [zdV] at h;obtain ⟨rfl,rfl⟩:=h;exact ⟨rfl,by omega,by simp [znh],by simp [okB]⟩
 |i+1,d,a,h=>by
  have hall:=zaY hr
  have hlen:=za8 hr
  simp only [zdV,Option.bind_eq_some_iff] at h
  obtain ⟨⟨d0,a0⟩,h0,h⟩:=h
  obtain ⟨q1,q2,q3,q4⟩:=zeO hr i d0 a0 h0
  split at h
  ·rename_i hx
   have hb:=hx.choose_spec
   generalize hx.choose=k at h hb
   simp only [Option.some.injEq,Prod.mk.injEq] at h
   obtain ⟨rfl,rfl⟩:=h
   obtain ⟨b1,b2,b3,b4⟩:=hb
   have hkn:(UInt8.ofNat k).toNat=k:=by simp;omega
   have hcn:=zhE hall hlen b1
   refine ⟨by simp [q1],by simpa using b3,?_,?_⟩
   ·have e:znh l (d0++ [UInt8.ofNat k])=znh l d0++zcq l k:=by simp [znh,hkn]
    have hc:(codeOf l k).toNat< 2 ^ (at0 l k).toNat:=by rw [←b4];exact zfH s a0 _
    have hbi:=(zgp (s:=s) (a:=a0) (c:=(codeOf l k).toNat) (n:=(at0 l k).toNat) hc b3).2 b4
    rw [e,←q3,List.take_add]
    congr 1
   ·intro x hx
    rcases List.mem_append.1 hx with hx|hx
    ·exact q4 x hx
    ·simp only [List.mem_singleton] at hx;subst hx;rw [hkn];exact b2
  ·cases h
noncomputable def zdB (l:List Int) (s:Bytes) (n:Nat):Option Bytes:=(zdV l s n).bind fun p=>if 8*s.length - p.2≤7∧zav s p.2 (8*s.length - p.2)=0 then some p.1 else none
end Go.Proofs.YtjgpbhodbgjggaaGreat.K
namespace Go.Proofs.YtjgpbhodbgjggaaGreat.K
open Go Go.Proofs
theorem Rx.of {H H':Heap} {x b:Nat} {F C St:Nat→Nat} {o:Bytes} (h:Rx H x b F C St o) (hk:∀k,k< H.next→k≠b→H'.get k=H.get k):Rx H' x b F C St o:=by
 obtain ⟨cs,oa,oc,h1,h2,h3,h4,h5,h6,h7⟩:=h
 refine ⟨cs,oa,oc,(hk x (zai h1) h2).trans h1,h2,h3,h4,h5,h6,fun hp=>?_⟩
 obtain ⟨ob,q1,q2,q3⟩:=h7 hp
 exact ⟨ob,q1,q2,(hk ob (zai q3) q2).trans q3⟩
theorem By.of {H H':Heap} {b:Nat} {sv:Value} {s:Bytes} (h:By H b sv s) (hk:∀k,k< H.next→k≠b→H'.get k=H.get k):By H' b sv s:=by
 obtain ⟨a,c,h1,h2⟩:=h
 refine ⟨a,c,h1,fun hp=>?_⟩
 obtain ⟨bb,q1,q2,q3⟩:=h2 hp
 exact ⟨bb,q1,q2,(hk bb (zai q3) q2).trans q3⟩
theorem Rc.rx {H0 H:Heap} {N:Nat} {F C St:Nat→Nat} {o:Bytes} {cs:List Value} {ov:Value} (h:Rc H0 N F C St o H cs ov) {b:Nat} (hb:H.next≤b):Rx H N b F C St o:=by
 have hlt:=h.lt
 obtain ⟨a,c,rfl,ha⟩:=h.a.len
 refine ⟨cs,a,c,h.hx,by omega,h.f,h.c,h.s,h.od,fun hp=>?_⟩
 obtain ⟨ob,q1,q2⟩:=ha hp
 exact ⟨ob,q1,by have:=zai q2;omega,q2⟩
section
variable {H:Heap} {a:Option Addr} {c:Nat} {l:List Int} {s:Bytes}
structure zsI (HB:Heap) (x b:Nat) (sv:Value) (l:List Int) (s:Bytes) (n:Nat) (d:Nat) (e:Fe) (H:Heap) (i:Nat):Prop where
 h1:i≤n
 h2:d=n - i
 r:∃t at_,zdV l s i=some (t,at_)∧H.get b=BrB sv at_∧Acc 5 1 HB.next H.next H (e 10) i (bvs t)
 nx:HB.next≤H.next
 kp:∀k,k< HB.next→k≠b→H.get k=HB.get k
 e8:e 8= .pointer (some ⟨x,0,none⟩)
 e9:e 9= .pointer (some ⟨b,0,none⟩)
 e32:e 32= .int .i64 n
 e33:e 33= .int .i64 i
theorem znl (hl:Iv H a l) (hm:(l.length:Int)≤9223372036854775807) (hs:s.length≤100000) (n:Int):
  Wf S 199 [.slice a l.length c,.string (ofL s),.int .i64 n] H fun v H'=>Kp H.next H H'∧
   if zaJ l=true∧0≤n∧n≤1048576 then
    match zdB l s n.toNat with
    |some d=>∃w,v= .tuple #[w,.bool true]∧Acc 5 1 H.next H'.next H' w d.length (bvs d)
    |none=>v= .tuple #[.slice none 0 0,.bool false]
   else v= .tuple #[.slice none 0 0,.bool false]:=by
 refine w199 rfl rfl _ _ _ ?_
 simp [s199]
 refine (zkl hl hm).mono ?_
 rintro v H1 ⟨rfl,rfl⟩
 by_cases hw:zaJ l=true
 case neg=>
  simp [hw,tup]
  exact Kp.refl _ _
 by_cases hn0:n< 0
 ·have:¬0≤n:=by omega
  simp [hw,hn0,this,tup]
  exact Kp.refl _ _
 by_cases hn1:1048576< n
 ·have:¬n≤1048576:=by omega
  simp [hw,hn0,hn1,this,tup]
  exact Kp.refl _ _
 have hr:zaS l=true:=by simp only [zaJ,Bool.and_eq_true] at hw;exact hw.1
 have hlen:=za8 hr
 have hall:=zaY hr
 obtain ⟨m,rfl⟩:∃m:Nat,n=(m:Int):=⟨n.toNat,by omega⟩
 have hcond:zaJ l=true∧0≤(m:Int)∧(m:Int)≤1048576:=⟨hw,by omega,by omega⟩
 simp only [eq_true hcond,if_true,Int.toNat_natCast]
 simp [hw,hn0,hn1]
 refine (zoJ hl hr).mono ?_
 rintro v H2 ⟨rfl,cs,ov,hrc⟩
 have hsr:s.length≤zag:=by unfold zag;omega
 have hs2:=fun K=>zb1 (S:=S) (e:= []) (H:=H2) (K:=K) (t:=5) hsr
 simp [hs2]
 have hk3:Kp H2.next H2 (H2.push (.cells (bvs s) 5 true)):=Kp.push (Nat.le_refl _)
 have hrow:zaP (H2.push (.cells (bvs s) 5 true)) 5 1 s.length (some ⟨H2.next,0,none⟩)=some (bvs s):=by
  simp [zaP,rd,zev]
  rw [←zev s,List.take_length]
 generalize H2.push (.cells (bvs s) 5 true)=H3 at*
 refine (zco (c:=zat) hrow (by omega)).mono ?_
 rintro v H4 ⟨sv,b,rfl,hb1,hb2,hgb,hby,hk4⟩
 have hn2:=hk3.1
 have hn3:=hk4.1
 have hrx:Rx H4 H1.next b (Fq l 12) (Cq l 12) (Sq l 12) (zaK l 12 0):=(hrc.rx (by omega)).of fun k hk _=>(hk4.2 k (by omega)).trans (hk3.2 k hk)
 have hkp4:Kp H1.next H1 H4:=hrc.kp.trans ((hk3.mono hrc.kp.1).trans (hk4.mono (by have:=hrc.kp.1;omega)))
 have hob:=zgq hlen 12
 have htot:total l≤2048:=by
  simp only [zaJ,Bool.and_eq_true,Bool.or_eq_true,decide_eq_true_eq] at hw
  rcases hw.2 with h|h<;>omega
 have hF:∀n,n≤12→Fq l 12 n≤100000:=fun n hn=>by
  unfold Fq
  split
  ·rename_i h
   have h1:=zc3 (l:=l) n (by omega) (by omega) 0 (by omega)
   have h2:=zfl l n 0
   have h3:=zbb (n:Int)
   rcases Int.lt_or_le 100000 (zaw l n 0) with h4|h4
   ·have:zaw l n 0*1≤zaw l n 0*part n:=Int.mul_le_mul_of_nonneg_left (by omega) (by omega)
    omega
   ·omega
  ·omega
 have hC:∀n,n≤12→Cq l 12 n≤1000:=fun n _=>by
  unfold Cq
  split
  ·have:=zdQ l n l.length;omega
  ·omega
 have hSt:∀n,n≤12→Sq l 12 n+Cq l 12 n≤(zaK l 12 0).length:=fun n hn=>by
  unfold Sq Cq
  split
  ·rename_i h
   obtain ⟨m,rfl⟩:∃m,n=m+1:=⟨n - 1,by omega⟩
   rw [ziC]
   obtain ⟨q,hq⟩:=Nat.exists_eq_add_of_le (show m+1+1≤12 by omega)
   have p2:=(zgr (l:=l) (n:=m+1) (by omega) q).length_le
   rw [←hq] at p2
   exact p2
  ·omega
 refine l199_0 S (fun d e H'=>∃i,zsI H4 H1.next b sv l s m d e H' i) m ⟨0,by omega,by omega,⟨[],0,rfl,hgb,Acc.nil⟩,Nat.le_refl _,fun k _ _=>rfl,by simp,by simp,by simp,by simp⟩ ?_
 rintro d e H' ⟨i,hi,rfl,⟨t,at_,hdec,hg,hA⟩,hnx,hkp,e8,e9,e32,e33⟩
 have hrx':=hrx.of hkp
 have hby':=hby.of hkp
 obtain ⟨d1,d2,d3,d4⟩:=zeO hr i t at_ hdec
 have hkp1:Kp H1.next H1 H':=⟨by have:=hkp4.1;omega,fun k hk=>(hkp k (by have:=hkp4.1;omega) (by have:=hrc.kp.1;omega)).trans (hkp4.2 k hk)⟩
 by_cases h3:i< m
 ·have w2:IntKind.i64.wrap ((i:Int)+1)=(i:Int)+1:=wi (by omega) (by omega)
  simp [s199_0,e8,e9,e32,e33,h3]
  refine (zqE hrx' hg hby' (by omega) d2 hF hC hSt (by omega)).mono ?_
  rintro v H5 (⟨n,hn,hfit,hnot,hhit,rfl,rfl⟩|⟨rfl,q,hq,hnot,hq2,rfl⟩)
  ·obtain ⟨k,hbk,hak,hsym⟩:=zoK hr (by omega) hn hfit hhit
   rw [hsym]
   have hdn:=ziE hr hdec hbk
   have hakn:(at0 l k).toNat=n+1:=by omega
   rw [hakn] at hdn
   have hbl:b< H'.next:=by omega
   obtain ⟨HX,hHX⟩:∃HX,HX=H'.put b (BrB sv (at_+(n+1))):=⟨_,rfl⟩
   have hgX:HX.get b=BrB sv (at_+(n+1)):=by rw [hHX];exact zad hbl
   have hnX:HX.next=H'.next:=by rw [hHX];exact next_put
   have hAX:Acc 5 1 H4.next HX.next HX (e 10) i (bvs t):=by rw [hnX,hHX];exact hA.kp fun k hk _=>zaa (by omega)
   have hkX:∀k,k< H4.next→k≠b→HX.get k=H4.get k:=fun k h1 h2=>by rw [hHX,zaa h2];exact hkp k h1 h2
   rw [←hHX]
   obtain ⟨u,hu⟩:∃u,u=UInt8.ofNat k:=⟨_,rfl⟩
   rw [←hu] at hdn⊢
   obtain ⟨v2,H6,hap,hA6,hn6,hk6⟩:=hAX.app (bytes:=1) (new:= [bv u]) (by omega) (Nat.le_refl _) rfl (by unfold zag;omega)
   unfold bv at hap⊢
   simp [e33,zaF,zaR,zay,cellsL,wr,zaP,rd,hap,w2]
   refine ⟨m - (i+1),by omega,i+1,by omega,rfl,⟨t++ [u],at_+(n+1),hdn,(hk6 b (by omega) (.inl (by omega))).trans hgX,by simpa [bvs,bv] using hA6⟩,by omega,fun k h1 h2=>(hk6 k (by omega) (.inl (by omega))).trans (hkX k h1 h2),by simp [e8],by simp [e9],by simp [e32],by simp⟩
  ·have hmiss:∀k,¬Beg l s at_ k:=fun k hb=>by
    have hh:=zoL hr hb
    have:=hall k
    obtain ⟨b1,b2,b3,b4⟩:=hb
    exact hnot _ (by omega) (by omega) hh
   have hdn:=zgW hdec hmiss
   obtain ⟨j,hj⟩:=Nat.exists_eq_add_of_le (show i+1≤m by omega)
   have hdm:=zfb hdn j
   rw [←hj] at hdm
   have hF0:zdB l s m=none:=by unfold zdB;rw [hdm];rfl
   simp [hF0,tup]
   exact hkp1.trans (Kp.put (by have:=hrc.kp.1;have:=hkp4.1;omega))
 ·have h5:i=m:=by omega
  subst h5
  simp [s199_0,e8,e9,e32,e33]
  refine (zjn hg hby' (by omega) d2).mono ?_
  rintro v H5 ⟨rfl,rfl⟩
  obtain ⟨L,hL⟩:∃L,L=8*s.length - at_:=⟨_,rfl⟩
  rw [←hL]
  have hmn:min (L:Int) 8=((min L 8:Nat):Int):=by omega
  simp [hmn]
  refine (ze4 hg hby' (by omega) d2 (min L 8) (by omega)).mono ?_
  intro v H6 hv
  rw [if_pos (by omega)] at hv
  obtain ⟨rfl,rfl⟩:=hv
  have hkp6:Kp H1.next H1 (H5.put b (BrB sv (at_+min L 8))):=hkp1.trans (Kp.put (by have:=hrc.kp.1;have:=hkp4.1;omega))
  have hA6:Acc 5 1 H1.next (H5.put b (BrB sv (at_+min L 8))).next (H5.put b (BrB sv (at_+min L 8))) (e 10) i (bvs t):=by
   rw [next_put]
   rcases hA.kp (H':=H5.put b (BrB sv (at_+min L 8))) fun k hk _=>zaa (by omega) with h|⟨b',c',q1,q2,q3⟩
   ·exact .inl h
   ·exact .inr ⟨b',c',by have:=hkp4.1;omega,q2,q3⟩
  have hfd:zdB l s i=if L≤7∧zav s at_ L=0 then some t else none:=by unfold zdB;rw [hdec];simp only [Option.bind_some,hL]
  rw [hfd]
  by_cases g1:7< L
  ·have g1':¬L≤7:=by omega
   have g1i:(7:Int)< L:=by omega
   simp [g1,g1',g1i,tup]
   exact hkp6
  ·have g1':L≤7:=by omega
   have g1i:¬(7:Int)< L:=by omega
   have hmL:min L 8=L:=by omega
   rw [hmL] at hkp6 hA6⊢
   by_cases g2:zav s at_ L=0
   ·simp [g1,g1',g1i,g2,tup]
    exact ⟨hkp6,by rw [d1];exact hA6⟩
   ·simp [g1,g1',g1i,g2,tup]
    exact hkp6
end
def CdS (H:Heap) (x M:Nat) (l:List Int) (j:Nat):Prop:=∃cs,H.get x= .cells cs 105 true∧cs.length=256∧
 ∀k,k< j→0< at0 l k→∃a c,cs[k]? =some (.slice a (at0 l k).toNat c)∧∃b o cs',a=some ⟨b,o,none⟩∧b< M∧b≠x∧H.get b= .cells cs' 3 true∧∀(i:Nat) y,(zcq l k)[i]? =some y→cs'[o+i]? =some (.int .i64 y)
theorem CdS.of {H H':Heap} {x M M':Nat} {l:List Int} {j:Nat} (h:CdS H x M l j) (hx:x< M) (hk:∀k,k< M→H'.get k=H.get k) (hM:M≤M'):CdS H' x M' l j:=by
 obtain ⟨cs,h1,h2,h3⟩:=h
 refine ⟨cs,(hk x hx).trans h1,h2,fun k hkj hp=>?_⟩
 obtain ⟨a,c,q1,b,o,cs',q2,q3,q4,q5,q6⟩:=h3 k hkj hp
 exact ⟨a,c,q1,b,o,cs',q2,by omega,q4,(hk b q3).trans q5,q6⟩
section
variable {H:Heap} {a:Option Addr} {c:Nat} {l:List Int} {s:Bytes}
structure CdI (H0:Heap) (a:Option Addr) (c:Nat) (l:List Int) (a1 a2:Value) (d:Nat) (e:Fe) (H:Heap) (j:Nat):Prop where
 h1:j≤l.length
 h2:d=l.length - j
 kp:Kp H0.next H0 H
 lt:H0.next< H.next
 cd:CdS H H0.next H.next l j
 e0:e 0= .slice a l.length c
 e1:e 1=a1
 e2:e 2=a2
 e8:e 8= .pointer (some ⟨H0.next,0,none⟩)
 e9:e 9= .int .i64 j
theorem ziF {H0 H:Heap} {e:Fe} {Q:Kx} {a1 a2:Value} (hl:Iv H0 a l) (hr:zaS l=true) (hc:CdI H0 a c l a1 a2 l.length e H 0)
  (hQ:∀e' H',CdI H0 a c l a1 a2 0 e' H' l.length→Q (.exit 0) e' H'):WL S b127_2 e H Q:=by
 have hlen:=za8 hr
 have hall:=zaY hr
 refine l127_2 S (fun d e H'=>∃j,CdI H0 a c l a1 a2 d e H' j) l.length ⟨0,hc⟩ ?_
 rintro d e H' ⟨j,hj,rfl,hkp,hlt,hcd,e0,e1,e2,e8,e9⟩
 by_cases h3:j< l.length
 ·have hl':=hl.kp hkp
  obtain ⟨b,o,cs,rw,rfl,hg,hcs⟩:=hl' (by omega)
  obtain ⟨x,hx⟩:∃x,l[j]? =some x:=⟨_,List.getElem?_eq_getElem h3⟩
  have hcx:=hcs j x hx
  have hax:=at0_of hx
  have hxb:=hall j
  rw [hax] at hxb
  have w2:IntKind.i64.wrap ((j:Int)+1)=(j:Int)+1:=wi (by omega) (by omega)
  by_cases g:0< x
  ·simp [s127_2,e0,e1,e2,e8,e9,h3,zac,hg,hcx,g]
   refine (zqN (c:=c) (hl.kp hkp) hr h3 (by rw [hax];exact g)).mono ?_
   rintro v H4 ⟨hk4,hA4⟩
   have hcd4:=hcd.of hlt (fun k hk=>hk4.2 k hk) hk4.1
   obtain ⟨cs4,g1,g2,g3⟩:=hcd4
   have hn4:=hk4.1
   have hj6:j< 256:=by omega
   have hj6':(j:Int)< 256:=by omega
   obtain ⟨a5,c5,rfl,h5⟩:=hA4.len
   rcases hA4 with ⟨h0,_,_⟩|⟨b4,c4,r1,r2,r3,r4,r5,r6⟩
   ·rw [hax] at h0;omega
   obtain ⟨rfl,_,rfl⟩:=(Value.slice.injEq _ _ _ _ _ _).mp r3
   have hst:kSt H4 (.pointer (some ⟨H0.next,j,none⟩)) (.slice (some ⟨b4,0,none⟩) (at0 l j).toNat c5)=some (H4.put H0.next (.cells (cs4.set j (.slice (some ⟨b4,0,none⟩) (at0 l j).toNat c5)) 105 true)):=by
    simp [kSt,g1,g2,hj6,zaB]
   simp [hj6,hj6',hst,w2,e8,e9]
   refine ⟨l.length - (j+1),by omega,j+1,by omega,rfl,hkp.trans ((hk4.mono (by omega)).trans (Kp.put (Nat.le_refl _))),by rw [next_put];omega,⟨_,zad (by omega),by simp [g2],fun k hk hp=>?_⟩,by simp [e0],by simp [e1],by simp [e2],by simp [e8],by simp⟩
   by_cases hkj:k=j
   ·subst hkj
    refine ⟨_,c5,by rw [List.getElem?_set_self (by omega)],b4,0,_,rfl,by rw [next_put];omega,by omega,(zaa (by omega)).trans r5,fun i y hy=>by rw [Nat.zero_add];exact zhD hy⟩
   ·obtain ⟨a6,c6,q1,b6,o6,cs6,q2,q3,q4,q5,q6⟩:=g3 k (by omega) hp
    exact ⟨a6,c6,by rw [List.getElem?_set_ne (by omega)];exact q1,b6,o6,cs6,q2,by rw [next_put];exact q3,q4,(zaa q4).trans q5,q6⟩
  ·simp [s127_2,e0,e1,e2,e8,e9,h3,zac,hg,hcx,g,w2]
   refine ⟨l.length - (j+1),by omega,j+1,by omega,rfl,hkp,hlt,?_,by simp [e0],by simp [e1],by simp [e2],by simp [e8],by simp⟩
   obtain ⟨cs4,g1,g2,g3⟩:=hcd
   refine ⟨cs4,g1,g2,fun k hk hp=>?_⟩
   by_cases hkj:k=j
   ·subst hkj;rw [hax] at hp;omega
   ·exact g3 k (by omega) hp
 ·have h5:j=l.length:=by omega
  subst h5
  simp [s127_2,e0,e9]
  exact hQ _ _ ⟨Nat.le_refl _,by omega,hkp,hlt,hcd,by simp [e0],by simp [e1],by simp [e2],by simp [e8],by simp [e9]⟩
theorem zoM {at_ k:Nat} (hw:zaJ l=true) (hk:k< l.length) (hp:0< at0 l k):((zbu s).drop at_).take (zcq l k).length=zcq l k↔Beg l s at_ k:=by
 have hr:zaS l=true:=by simp only [zaJ,Bool.and_eq_true] at hw;exact hw.1
 have hall:=zaY hr
 have hlen:=za8 hr
 have htot:total l≤2048:=by
  simp only [zaJ,Bool.and_eq_true,Bool.or_eq_true,decide_eq_true_eq] at hw
  rcases hw.2 with h|h<;>omega
 have hc:=zok hall hk hp htot
 have hcn:(codeOf l k).toNat< 2 ^ (at0 l k).toNat:=by
  have e:p2 (at0 l k).toNat=((2 ^ (at0 l k).toNat:Nat):Int):=by unfold p2;exact_mod_cast rfl
  omega
 rw [zfa]
 by_cases hn:at_+(at0 l k).toNat≤8*s.length
 ·have:=zgp (s:=s) (a:=at_) (c:=(codeOf l k).toNat) (n:=(at0 l k).toNat) hcn hn
  unfold zcq
  rw [this]
  exact ⟨fun h=>⟨hk,hp,hn,h⟩,fun h=>h.2.2.2⟩
 ·constructor
  ·intro h
   have:=congrArg List.length h
   rw [List.length_take,List.length_drop,ze9,zfa] at this
   omega
  ·intro h;exact absurd h.2.2.1 hn
structure zrL (HH:Heap) (l:List Int) (s:Bytes) (at_:Nat) (ef:Fe) (d:Nat) (e:Fe) (H:Heap) (k:Nat):Prop where
 h1:k≤l.length
 h2:d=l.length - k
 hH:H=HH
 fr:e 0=ef 0∧e 2=ef 2∧e 8=ef 8∧e 10=ef 10∧e 11=ef 11∧e 12=ef 12
 m:(e 13= .int .i64 (-1)∧∀k',k'< k→¬Beg l s at_ k')∨∃k',k'< k∧Beg l s at_ k'∧e 13= .int .i64 (k':Int)
 e14:e 14= .int .i64 k
theorem zlj {H:Heap} {e:Fe} {Q:Kx} {x M at_:Nat} {v:Value} (hl:Iv H a l) (hw:zaJ l=true) (hcd:CdS H x M l l.length) (hv:Is H v ((zbu s).drop at_)) (hs:s.length≤100000)
  (e0:e 0= .slice a l.length c) (e8:e 8= .pointer (some ⟨x,0,none⟩)) (e10:e 10=v) (e13:e 13= .int .i64 (-1)) (e14:e 14= .int .i64 0)
  (hQ:∀e',zrL H l s at_ e 0 e' H l.length→Q (.exit 4) e' H):WL S b127_3 e H Q:=by
 have hr:zaS l=true:=by simp only [zaJ,Bool.and_eq_true] at hw;exact hw.1
 have hlen:=za8 hr
 have hall:=zaY hr
 obtain ⟨va,vc,rfl,hiv⟩:=hv.iv
 obtain ⟨cs4,g1,g2,g3⟩:=hcd
 refine l127_3 S (fun d e' H'=>∃k,zrL H l s at_ e d e' H' k) l.length ⟨0,by omega,by omega,rfl,⟨rfl,rfl,rfl,rfl,rfl,rfl⟩,.inl ⟨e13,by omega⟩,e14⟩ ?_
 rintro d e' H' ⟨k,hk,rfl,rfl,fr,hm,q14⟩
 have q0:=fr.1.trans e0
 have q8:=fr.2.2.1.trans e8
 have q10:=fr.2.2.2.1.trans e10
 by_cases h3:k< l.length
 ·obtain ⟨b,o,cs,rw,rfl,hg,hcs⟩:=hl (by omega)
  obtain ⟨y,hy⟩:∃y,l[k]? =some y:=⟨_,List.getElem?_eq_getElem h3⟩
  have hcy:=hcs k y hy
  have hay:=at0_of hy
  have w2:IntKind.i64.wrap ((k:Int)+1)=(k:Int)+1:=wi (by omega) (by omega)
  have k256:k< 256:=by omega
  have k256':(k:Int)< 256:=by omega
  by_cases g:0< y
  ·obtain ⟨a6,c6,r1,b6,o6,cs6,rfl,r3,r4,r5,r6⟩:=g3 k h3 (by rw [hay];exact g)
   have hivc:Iv H' (some ⟨b6,o6,none⟩) (zcq l k):=fun _=>⟨b6,o6,cs6,true,rfl,r5,r6⟩
   have hbeg:=zoM (s:=s) (at_:=at_) hw h3 (by rw [hay];exact g)
   have hbl:=ze9 s
   have hcl:=zfa (l:=l) (s:=k)
   have hab:=hall k
   have hst:=znd (c:=vc) (c2:=c6) hiv hivc (by rw [List.length_drop];omega) (by omega)
   rw [hcl] at hst
   simp [s127_3,q0,q8,q10,q14,h3,zac,hg,hcy,g,k256,k256',g1,r1]
   rw [List.length_drop] at hst
   refine hst.mono ?_
   rintro r H2 ⟨rfl,rfl⟩
   rw [←hcl]
   by_cases hb:Beg l s at_ k
   ·have:=hbeg.2 hb
    simp [this,q14,w2]
    exact ⟨l.length - (k+1),by omega,k+1,by omega,rfl,rfl,by simp [fr],.inr ⟨k,by omega,hb,by simp⟩,by simp⟩
   ·have hnb:¬((zbu s).drop at_).take (zcq l k).length=zcq l k:=fun h=>hb (hbeg.1 h)
    simp [hnb,q14,w2]
    refine ⟨l.length - (k+1),by omega,k+1,by omega,rfl,rfl,by simp [fr],?_,by simp⟩
    rcases hm with ⟨m1,m2⟩|⟨k',m1,m2,m3⟩
    ·refine .inl ⟨by simp [m1],fun k' hk'=>?_⟩
     by_cases e:k'=k
     ·rw [e];exact hb
     ·exact m2 k' (by omega)
    ·exact .inr ⟨k',by omega,m2,by simp [m3]⟩
  ·have hb:¬Beg l s at_ k:=fun h=>g (by rw [←hay];exact h.2.1)
   simp [s127_3,q0,q8,q10,q14,h3,zac,hg,hcy,g,w2]
   refine ⟨l.length - (k+1),by omega,k+1,by omega,rfl,rfl,by simp [fr],?_,by simp⟩
   rcases hm with ⟨m1,m2⟩|⟨k',m1,m2,m3⟩
   ·refine .inl ⟨by simp [m1],fun k' hk'=>?_⟩
    by_cases e:k'=k
    ·rw [e];exact hb
    ·exact m2 k' (by omega)
   ·exact .inr ⟨k',by omega,m2,by simp [m3]⟩
 ·have h5:k=l.length:=by omega
  subst h5
  simp [s127_3,q0,q14]
  refine hQ _ ⟨Nat.le_refl _,by omega,rfl,by simp [fr],?_,by simp [q14]⟩
  rcases hm with ⟨m1,m2⟩|⟨k',m1,m2,m3⟩
  ·exact .inl ⟨by simp [m1],m2⟩
  ·exact .inr ⟨k',m1,m2,by simp [m3]⟩
theorem zfc (s:Bytes) (at_:Nat):∀n,zav s at_ n=0↔∀i,i< n→za1 s (at_+i)=0
 |0=>by simp [zav]
 |n+1=>by
  have ih:=zfc s at_ n
  have hp:0< 2 ^ n:=Nat.pow_pos (by omega)
  simp only [zav]
  constructor
  ·intro h i hi
   have h2:za1 s (at_+n)*2 ^ n=0:=by omega
   have h1:zav s at_ n=0:=by omega
   rcases Nat.lt_or_ge i n with hin|hin
   ·exact ih.1 h1 i hin
   ·have:i=n:=by omega
    subst this
    rcases Nat.mul_eq_zero.1 h2 with h|h<;>omega
  ·intro h
   rw [ih.2 fun i hi=>h i (by omega),h n (by omega)];simp
structure zsJ (HB:Heap) (x:Nat) (a:Option Addr) (c:Nat) (l:List Int) (s:Bytes) (n:Nat) (d:Nat) (e:Fe) (H:Heap) (i:Nat):Prop where
 h1:i≤n
 h2:d=n - i
 r:∃t at_,zdV l s i=some (t,at_)∧Is HB (e 10) ((zbu s).drop at_)∧Acc 5 1 HB.next H.next H (e 11) i (bvs t)
 kp:Kp HB.next HB H
 e0:e 0= .slice a l.length c
 e2:e 2= .int .i64 n
 e8:e 8= .pointer (some ⟨x,0,none⟩)
 e12:e 12= .int .i64 i
structure zsK (HH:Heap) (s:Bytes) (at_:Nat) (v w:Value) (d:Nat) (e:Fe) (H:Heap) (i:Nat):Prop where
 h1:i≤8*s.length - at_
 h2:d=8*s.length - at_ - i
 hH:H=HH
 z:∀j,j< i→za1 s (at_+j)=0∧j< 7
 e10:e 10=v
 e11:e 11=w
 e15:e 15= .int .i64 i
theorem zlk (hl:Iv H a l) (hw:zaJ l=true) (hs:s.length≤100000) (n:Nat) (hn:n≤1048576):
  Wf S 127 [.slice a l.length c,.string (ofL s),.int .i64 n] H fun v H'=>Kp H.next H H'∧
   match zdB l s n with
   |some d=>∃w,v= .tuple #[w,.bool true]∧Acc 5 1 H.next H'.next H' w d.length (bvs d)
   |none=>v= .tuple #[.slice none 0 0,.bool false]:=by
 have hr:zaS l=true:=by simp only [zaJ,Bool.and_eq_true] at hw;exact hw.1
 have hlen:=za8 hr
 have hall:=zaY hr
 have hbl:=ze9 s
 refine w127 rfl rfl _ _ _ ?_
 simp [s127]
 have hk1:∀cs:List Value,Kp H.next H (H.push (.cells cs 105 true)):=fun cs=>Kp.push (Nat.le_refl _)
 refine ziF (H0:=H) (a:=a) (c:=c) (a1:= .string (ofL s)) (a2:= .int .i64 n) hl hr ⟨by omega,by omega,hk1 _,by simp,⟨_,zaf,rfl,by omega⟩,by simp,by simp,by simp,by simp,by simp⟩ ?_
 rintro e1 H1 ⟨_,_,hkp1,hlt1,hcd1,q0,q1,q2,q8,q9⟩
 have hsr:s.length≤zag:=by unfold zag;omega
 have hs2:=fun K=>zb1 (S:=S) (e:= []) (H:=H1) (K:=K) (t:=5) hsr
 simp [q1,hs2]
 have hk2:Kp H1.next H1 (H1.push (.cells (bvs s) 5 true)):=Kp.push (Nat.le_refl _)
 have hg2:(H1.push (.cells (bvs s) 5 true)).get H1.next= .cells (bvs s) 5 true:=zaf
 generalize H1.push (.cells (bvs s) 5 true)=H2 at*
 refine (zhB (c:=zat) (fun _=>⟨H1.next,rfl,hg2⟩) (by omega)).mono ?_
 rintro v H3 ⟨hk3,hA3⟩
 have hn1:=hk2.1
 have hn3:=hk3.1
 have hcd3:CdS H3 H.next H3.next l l.length:=hcd1.of hlt1 (fun k hk=>(hk3.2 k (by omega)).trans (hk2.2 k hk)) (by omega)
 have hkp3:Kp H.next H H3:=hkp1.trans ((hk2.mono hkp1.1).trans (hk3.mono (by have:=hkp1.1;omega)))
 have hl3:Iv H3 a l:=hl.kp hkp3
 have his3:Is H3 v (zbu s):=by
  rcases hA3 with ⟨h0,h1,rfl⟩|⟨b,c',r1,r2,r3,r4,r5,r6⟩
  ·exact .inl ⟨rfl,by simpa [ivs] using h1⟩
  ·refine .inr ⟨b,0,c',_,true,by rw [r3,hbl],?_,r5,fun i y hy=>by rw [Nat.zero_add];exact zhD hy⟩
   rcases r4 with r4|r4
   ·exact .inl r4
   ·right;rw [hbl];omega
 refine l127_1 S (fun d e H'=>∃i,zsJ H3 H.next a c l s n d e H' i) n ⟨0,by omega,by omega,⟨[],0,rfl,by simpa using his3,by simpa [bvs] using Acc.nil⟩,Kp.refl _ _,by simp [q0],by simp [q2],by simp [q8],by simp⟩ ?_
 rintro d e H' ⟨i,hi,rfl,⟨t,at_,hdec,his,hA⟩,hkp,e0,e2,e8,e12⟩
 obtain ⟨d1,d2,d3,d4⟩:=zeO hr i t at_ hdec
 have hl':=hl3.kp hkp
 have hcd:=hcd3.of (by omega) (fun k hk=>hkp.2 k hk) hkp.1
 by_cases h3:i< n
 ·have w2:IntKind.i64.wrap ((i:Int)+1)=(i:Int)+1:=wi (by omega) (by omega)
  simp [s127_1,e2,e12,h3]
  refine zlj (c:=c) (v:=e 10) hl' hw hcd (his.kp hkp) hs (by simp [e0]) (by simp [e8]) (by simp) (by simp) (by simp) ?_
  rintro e' ⟨_,_,_,⟨f0,f2,f8,f10,f11,f12⟩,hm,_⟩
  simp at f0 f2 f8 f10 f11 f12
  rcases hm with ⟨m1,m2⟩|⟨k,hk,hb,m3⟩
  ·have hmiss:∀k,¬Beg l s at_ k:=fun k hb=>m2 k hb.1 hb
   have hdn:=zgW hdec hmiss
   obtain ⟨j,hj⟩:=Nat.exists_eq_add_of_le (show i+1≤n by omega)
   have hdm:=zfb hdn j
   rw [←hj] at hdm
   have hF0:zdB l s n=none:=by unfold zdB;rw [hdm];rfl
   simp [m1,hF0,tup]
   exact hkp3.trans (hkp.mono hkp3.1)
  ·obtain ⟨b1,b2,b3,b4⟩:=hb
   have hdn:=ziE hr hdec ⟨b1,b2,b3,b4⟩
   have hku:IntKind.u8.wrap (k:Int)=((UInt8.ofNat k).toNat:Int):=by
    have:(UInt8.ofNat k).toNat=k:=by simp;omega
    rw [this,wu8 (by omega) (by omega)]
   obtain ⟨u,hu⟩:∃u,u=UInt8.ofNat k:=⟨_,rfl⟩
   rw [←hu] at hdn hku
   have hnx:=hkp.1
   obtain ⟨v2,H6,hap,hA6,hn6,hk6⟩:=hA.app (bytes:=1) (new:= [bv u]) hkp.1 (Nat.le_refl _) rfl (by unfold zag;omega)
   have hkp6:Kp H3.next H3 H6:=⟨by omega,fun k hk=>(hk6 k (by omega) (.inl hk)).trans (hkp.2 k hk)⟩
   obtain ⟨y,hy⟩:∃y,l[k]? =some y:=⟨_,List.getElem?_eq_getElem b1⟩
   obtain ⟨bb,o,cs,rw,rfl,hg,hcs⟩:=(hl3.kp hkp6) (by omega)
   have hcy:=hcs k y hy
   have hay:=at0_of hy
   obtain ⟨z,hz⟩:∃z:Nat,y=(z:Int):=⟨y.toNat,by omega⟩
   have hzz:(at0 l k).toNat=z:=by omega
   rw [hzz] at hdn b3
   obtain ⟨v3,hv3⟩:=his.cut2 (S:=S) (m:=z) (by rw [List.length_drop];omega)
   obtain ⟨hi3,_⟩:=hv3 H3 his
   obtain ⟨_,hr6⟩:=hv3 H6 (his.kp hkp6)
   rw [List.drop_drop] at hi3
   subst hz
   unfold bv at hap
   have hkn:¬(k:Int)< 0:=by omega
   simp [m3,hkn]
   simp [m3,zaF,zaR,zay,cellsL,wr,zaP,rd,hku,f11,hap,f0,e0,b1,zac,hg,hcy,f10,hr6,f12,e12,w2]
   exact ⟨n - (i+1),by omega,i+1,by omega,rfl,⟨t++ [u],at_+z,hdn,by simpa using hi3,by simpa [bvs,bv] using hA6⟩,hkp6,by simp [f0,e0],by simp [f2,e2],by simp [f8,e8],by simp⟩
 ·have h5:i=n:=by omega
  subst h5
  simp [s127_1,e2,e12]
  have his':=his.kp hkp
  obtain ⟨va,vc,e10,hiv⟩:=his'.iv
  obtain ⟨L,hL⟩:∃L,L=8*s.length - at_:=⟨_,rfl⟩
  have hdl:((zbu s).drop at_).length=L:=by rw [List.length_drop,hbl,hL]
  have hfd:zdB l s i=if L≤7∧zav s at_ L=0 then some t else none:=by unfold zdB;rw [hdec];simp only [Option.bind_some,hL]
  have hkf:Kp H.next H H':=hkp3.trans (hkp.mono hkp3.1)
  rw [hdl] at e10
  refine l127_0 S (fun d e' H2=>∃j,zsK H' s at_ (.slice va L vc) (e 11) d e' H2 j) L ⟨0,by omega,by omega,rfl,by omega,by simp [e10],by simp,by simp⟩ ?_
  rintro d e' H2 ⟨j,hj,rfl,rfl,hz,q10,q11,q15⟩
  by_cases h4:j< L
  ·have w2:IntKind.i64.wrap ((j:Int)+1)=(j:Int)+1:=wi (by omega) (by omega)
   obtain ⟨bb,o,cs,rw,rfl,hg,hcs⟩:=hiv (by rw [hdl];omega)
   have hx:((zbu s).drop at_)[j]? =some ((za1 s (at_+j):Nat):Int):=by rw [List.getElem?_drop,zdP s _ (by omega)]
   have hcx:=hcs j _ hx
   by_cases g1:za1 s (at_+j)=0
   ·rw [g1] at hcx
    by_cases g2:j< 7
    ·have g2':¬(7:Int)≤j:=by omega
     simp [s127_0,q10,q11,q15,h4,zac,hg,hcx,g2',w2]
     refine ⟨L - (j+1),by omega,j+1,by omega,by omega,rfl,fun q hq=>?_,by simp [q10],by simp [q11],by simp⟩
     by_cases e:q=j
     ·rw [e];exact ⟨g1,g2⟩
     ·exact hz q (by omega)
    ·have g2':(7:Int)≤j:=by omega
     have hno:¬(L≤7∧zav s at_ L=0):=by omega
     rw [if_neg hno] at hfd
     simp [s127_0,q10,q11,q15,h4,zac,hg,hcx,g2',tup,hfd]
     exact hkf
   ·have hno:¬(L≤7∧zav s at_ L=0):=by
     rw [zfc]
     rintro ⟨_,h⟩
     exact g1 (h j h4)
    rw [if_neg hno] at hfd
    obtain ⟨B,hB⟩:∃B,B=za1 s (at_+j):=⟨_,rfl⟩
    rw [←hB] at hcx g1
    simp [s127_0,q10,q11,q15,h4,zac,hg,hcx,g1,tup,hfd]
    exact hkf
  ·have h5:j=L:=by omega
   subst h5
   have hyes:j≤7∧zav s at_ j=0:=by
    refine ⟨?_,(zfc s at_ j).2 fun q hq=>(hz q hq).1⟩
    rcases Nat.lt_or_ge 7 j with h|h
    ·have:=(hz 7 h).2;omega
    ·exact h
   rw [if_pos hyes] at hfd
   simp [s127_0,q10,q11,q15,tup,hfd]
   refine ⟨hkf,?_⟩
   rw [d1]
   rcases hA with h|⟨b',c',r1,r2,r3⟩
   ·exact .inl h
   ·exact .inr ⟨b',c',by have:=hkp3.1;omega,r2,r3⟩
end
section
variable {H:Heap} {b:Nat} {s:Bytes} {bad:Bool}
theorem zkp (h:Rd H b s bad) {m:Int} (hm:m< 0):Wf S 60 [.pointer (some ⟨b,0,none⟩),.int .i64 m] H fun v H'=>v= .int .i64 0∧H'=H.put b (RdB [] true):=by
 have hlt:=h.lt
 refine w60 rfl rfl _ _ ?_
 simp [s60]
 refine (zkf h).mono ?_
 rintro v H1 ⟨rfl,rfl⟩
 have hrd:Rd (H.put b (RdB (grL (zaz s bad)) (zaz s bad).isNone)) b (grL (zaz s bad)) (zaz s bad).isNone:=zaZ hlt
 try simp
 refine (zbd hrd).mono ?_
 rintro v H2 ⟨rfl,rfl⟩
 cases ho:zaz s bad with
 |none=>
  rw [ho] at hrd
  simp
  refine (zc6 hrd).mono ?_
  rintro v H3 rfl
  rw [zbh]
  try simp
 |some p=>
  rw [ho] at hrd
  simp [hm]
  refine (zc6 hrd).mono ?_
  rintro v H3 rfl
  rw [zbh]
  try simp
theorem zpl (x:UInt8):∀n,Lib.repeatL [x] n=List.replicate n x
 |0=>rfl
 |n+1=>by simp only [Lib.repeatL,zpl x n,List.replicate_succ];rfl
theorem zpm (x:UInt8) (n:Nat) (hn:n≤1000000000):Wf S 84 [.string (ofL [x]),.int .i64 n] H fun v H'=>v= .string (ofL (List.replicate n x))∧H'=H:=by
 refine zhe zim ⟨_,_,?_,rfl,rfl⟩
 have hz:(ofL [x]).size=1:=rfl
 have hd:(ofL [x]).data.toList= [x]:=rfl
 simp only [zgd,hz,hd,Int.toNat_natCast,zpl]
 rw [if_pos (by omega)]
 rfl
theorem Is.put {v:Value} {l:List Int} {l':Bytes} {bad':Bool} (h:Is H v l) (hr:Rd H b s bad):Is (H.put b (RdB l' bad')) v l:=by
 rcases h with h|⟨b',o,c,cs,rw,h1,h2,h3,h4⟩
 ·exact .inl h
 ·refine .inr ⟨b',o,c,cs,rw,h1,h2,?_,h4⟩
  have:b'≠b:=by
   rintro rfl
   unfold Rd at hr
   rw [h3] at hr
   simp [RdB] at hr
  rw [zaa this,h3]
noncomputable def zb0 (s:Bytes) (n:Nat):Option (Bytes×Bytes):=if rok s then (zas (s.drop (atN s)) false 1048576).bind fun p=>(zdB (zaW s (hdN s)) p.1 n).map fun d=>(d,p.2) else none
def LO (b:Nat) (v:Value) (H:Heap) (o:Option (Bytes×Bytes)):Prop:=match o with
 |some p=>v= .tuple #[.string (ofL p.1),.bool true]∧Rd H b p.2 false
 |none=>v= .tuple #[.string (ofL []),.bool false]
def KqL (b:Nat) (H H':Heap):Prop:=H.next≤H'.next∧∀k,k< H.next→k≠b→H'.get k=H.get k
def LOk (b:Nat) (H0:Heap) (v:Value) (H:Heap) (o:Option (Bytes×Bytes)):Prop:=match o with
 |some p=>v= .tuple #[.string (ofL p.1),.bool true]∧Rd H b p.2 false∧KqL b H0 H
 |none=>v= .tuple #[.string (ofL []),.bool false]
theorem LOk.lo {b:Nat} {H0 H:Heap} {v:Value} {o:Option (Bytes×Bytes)} (h:LOk b H0 v H o):LO b v H o:=by
 cases o with
 |none=>exact h
 |some p=>exact ⟨h.1,h.2.1⟩
theorem zll (h:Rd H b s false) (hs:s.length≤100000) (n:Nat) (hn:n≤1048576):Wf S 161 [.pointer (some ⟨b,0,none⟩),.int .i64 n] H fun v H'=>LOk b H v H' (zb0 s n):=by
 refine w161 rfl rfl _ _ ?_
 simp [s161]
 refine (zqM h hs).mono ?_
 rintro v H1 ⟨hn1,hold1,hr⟩
 by_cases hok:rok s
 ·rw [if_pos hok] at hr
  obtain ⟨v',rfl,hi,hr1⟩:=hr
  simp
  refine (zgh hr1 1048576 (by omega)).mono ?_
  rintro v H2 ⟨rfl,rfl⟩
  have hlt:=hr1.lt
  have hi2:=hi.put (l':=txL (zas (s.drop (atN s)) false 1048576)) (bad':=(zas (s.drop (atN s)) false 1048576).isNone) hr1
  have hr2:Rd (H1.put b (RdB (txL (zas (s.drop (atN s)) false 1048576)) (zas (s.drop (atN s)) false 1048576).isNone)) b (txL (zas (s.drop (atN s)) false 1048576)) (zas (s.drop (atN s)) false 1048576).isNone:=zaZ hlt
  try simp
  refine (zbd hr2).mono ?_
  rintro v H3 ⟨rfl,rfl⟩
  cases ho:zas (s.drop (atN s)) false 1048576 with
  |none=>
   have hc:zb0 s n=none:=by simp [zb0,hok,ho]
   simp [hc,LOk,tup,zam]
  |some p=>
   rw [ho] at hi2 hr2
   obtain ⟨a,c,rfl,hiv⟩:=hi2.iv
   have hpl:=zby ho
   rw [List.length_drop] at hpl
   have hw:zaJ (zaW s (hdN s))=true:=hok.2.2.1
   have hbd:=zgm s
   simp [txS]
   have hkq2:KqL b H (H1.put b (RdB (txL (some p)) (some p).isNone)):=⟨by rw [next_put];exact hn1,fun k hk hkb=>by rw [zaa hkb];exact hold1 k hk hkb⟩
   refine (znl hiv (by rw [za9];omega) (by omega) (n:Int)).mono ?_
   rintro v H4 ⟨hk,hv⟩
   rw [if_pos ⟨hw,by omega,by omega⟩,Int.toNat_natCast] at hv
   have hr4:Rd H4 b p.2 false:=(hk.2 b hr2.lt).trans hr2
   cases hd:zdB (zaW s (hdN s)) p.1 n with
   |none=>
    rw [hd] at hv
    subst hv
    have hc:zb0 s n=none:=by simp [zb0,hok,ho,hd]
    have hb2:=fun K=>zfi (S:=S) (e:= []) (H:=H4) (K:=K) (t:=5) (a:=none) (n:=0) (c:=0) (l:= []) rfl
    simp [hb2,hc,LOk,tup,zam]
   |some d=>
    rw [hd] at hv
    obtain ⟨w,rfl,hA⟩:=hv
    have hc:zb0 s n=some (d,p.2):=by simp [zb0,hok,ho,hd]
    obtain ⟨a',c',rfl,hrow⟩:=hA.row
    simp [zfi hrow,hc,LOk,tup,hr4]
    exact ⟨Nat.le_trans hkq2.1 hk.1,fun k h1 h2=>by rw [hk.2 k (Nat.lt_of_lt_of_le h1 hkq2.1)];exact hkq2.2 k h1 h2⟩
 ·rw [if_neg hok] at hr
  subst hr
  have hc:zb0 s n=none:=by simp [zb0,hok]
  simp [hc,LOk,tup,zam]
end
noncomputable def zcO (k:UInt8) (n:Nat) (u:Bytes):Option (Bytes×Bytes):=
 if k.toNat=0 then if n≤u.length then some (u.take n,u.drop n) else none
 else if k.toNat=1 then match u with| []=>none|x::w=>some (List.replicate n x,w)
 else if k.toNat=2 then zb0 u n else none
noncomputable def zcy (s:Bytes) (most:Int):Option (Bytes×Bytes):=match s with
 | []=>none
 |k::t=>if most< 0 then none else match zao t false (min most 1048576).toNat with
  |none=>none
  |some p=>zcO k p.1 p.2
theorem ziG {k:UInt8} {n:Nat} {u:Bytes} (h:k.toNat=1):zcO k n u=match u with| []=>none|x::w=>some (List.replicate n x,w):=by
 unfold zcO;rw [if_neg (by omega),if_pos h]
section
variable {H:Heap} {b:Nat} {s:Bytes}
theorem zlm (h:Rd H b s false) (hs:s.length≤100000) (most:Int):Wf S 123 [.pointer (some ⟨b,0,none⟩),.int .i64 most] H fun v H'=>LOk b H v H' (zcy s most):=by
 refine w123 rfl rfl _ _ ?_
 simp [s123]
 refine (zeD h).mono ?_
 rintro v H1 ⟨rfl,hr1,hn1,hold1⟩
 cases s with
 |nil=>
  have hc:zcy [] most=none:=rfl
  rw [hc]
  have hb1:zax [] false 1=true:=rfl
  rw [hb1] at hr1
  have hmn:∀K:Kv,run S (.mn (.c (.int .i64 most)) [.c (.int .i64 1048576)]) [] H1 K=K (.int .i64 (min most 1048576)) H1:=fun K=>by
   simp
  simp
  rcases (by omega:min most 1048576< 0∨0≤min most 1048576) with hneg|hpos
  ·refine (zkp hr1 hneg).mono ?_
   rintro v H2 ⟨rfl,rfl⟩
   have hr2:Rd (H1.put b (RdB [] true)) b [] true:=zaZ hr1.lt
   try simp
   refine (zbd hr2).mono ?_
   rintro v H3 ⟨rfl,rfl⟩
   simp [LOk,tup,zam]
  ·obtain ⟨m,hm⟩:∃m:Nat,min most 1048576=m:=⟨_,(Int.toNat_of_nonneg hpos).symm⟩
   rw [hm]
   refine (zgg hr1 m (by omega)).mono ?_
   rintro v H2 ⟨rfl,rfl⟩
   have hio:zao (zaE [] false 1) true m=none:=by simp [zao,zaz]
   rw [hio]
   have hr2:Rd (H1.put b (RdB [] true)) b [] true:=zaZ hr1.lt
   simp [grL]
   refine (zbd hr2).mono ?_
   rintro v H3 ⟨rfl,rfl⟩
   simp [LOk,tup,zam]
 |cons k t=>
  have hb1:zax (k::t) false 1=false:=by simp [zax]
  have hl1:zaE (k::t) false 1=t:=by simp [zaE]
  have ho1:(zar (k::t) false 1).headD 0=k:=by simp [zar]
  rw [hb1,hl1] at hr1
  rw [ho1]
  simp only [List.length_cons] at hs
  try simp
  rcases (by omega:most< 0∨0≤most) with hneg|hpos
  ·have hc:zcy (k::t) most=none:=if_pos hneg
   rw [hc]
   have hneg:min most 1048576< 0:=by omega
   refine (zkp hr1 hneg).mono ?_
   rintro v H2 ⟨rfl,rfl⟩
   have hr2:Rd (H1.put b (RdB [] true)) b [] true:=zaZ hr1.lt
   try simp
   refine (zbd hr2).mono ?_
   rintro v H3 ⟨rfl,rfl⟩
   simp [LOk,tup,zam]
  ·obtain ⟨m,hm⟩:∃m:Nat,min most 1048576=m:=⟨(min most 1048576).toNat,by omega⟩
   have hm':(min most 1048576).toNat=m:=by omega
   have hc0:zcy (k::t) most=match zao t false m with
    |none=>none
    |some p=>zcO k p.1 p.2:=by
    simp only [zcy];rw [if_neg (by omega),hm']
   rw [hm]
   refine (zgg hr1 m (by omega)).mono ?_
   rintro v H2 ⟨rfl,rfl⟩
   have hr2:Rd (H1.put b (RdB (grL (zao t false m)) (zao t false m).isNone)) b (grL (zao t false m)) (zao t false m).isNone:=zaZ hr1.lt
   try simp
   refine (zbd hr2).mono ?_
   rintro v H3 ⟨rfl,rfl⟩
   cases hio:zao t false m with
   |none=>
    rw [hio] at hc0
    simp [hc0,LOk,tup,zam]
   |some p=>
    obtain ⟨n,u⟩:=p
    obtain ⟨hnm,hul⟩:=zeb hio
    rw [hio] at hr2 hc0
    simp only [grL,Option.isNone_some] at hr2 hc0
    simp only at hnm hul
    have hkl:=k.toNat_lt
    simp only [grL,gvN,Option.isNone_some]
    have hkq2:KqL b H (H1.put b (RdB u false)):=⟨by rw [next_put];exact hn1,fun k hk hkb=>by rw [zaa hkb];exact hold1 k hk hkb⟩
    have kput:∀(HX:Heap) (x:Blk),KqL b H HX→KqL b H (HX.put b x):=fun HX x h=>⟨by rw [next_put];exact h.1,fun k hk hkb=>by rw [zaa hkb];exact h.2 k hk hkb⟩
    generalize H1.put b (RdB u false)=H2 at*
    by_cases k0:k.toNat=0
    ·have hc:zcO k n u=if n≤u.length then some (u.take n,u.drop n) else none:=if_pos k0
     simp [k0]
     refine (zde hr2 n).mono ?_
     rintro v H4 ⟨rfl,rfl⟩
     have hr4:Rd (H2.put b (RdB (zaE u false n) (zax u false n))) b (zaE u false n) (zax u false n):=zaZ hr2.lt
     rw [Int.toNat_natCast]
     try simp
     refine (zbd hr4).mono ?_
     rintro v H5 ⟨rfl,rfl⟩
     by_cases hle:n≤u.length
     ·have h3:¬u.length< n:=by omega
      rw [hc0,hc,if_pos hle]
      have e2:zax u false n=false:=by simp [zax,h3]
      have e3:zaE u false n=u.drop n:=by simp [zaE,h3]
      have e4:zar u false n=u.take n:=by simp [zar,h3]
      rw [e2,e3] at hr4
      simp [e2,e3,e4,LOk,tup]
      exact ⟨hr4,kput _ _ hkq2⟩
     ·have h3:u.length< n:=by omega
      rw [hc0,hc,if_neg hle]
      simp [zax,zaE,zar,h3,LOk,tup]
    by_cases k1:k.toNat=1
    ·have hc:=ziG (n:=n) (u:=u) k1
     simp [k1]
     refine (zde hr2 1).mono ?_
     rintro v H4 ⟨rfl,rfl⟩
     have hr4:Rd (H2.put b (RdB (zaE u false 1) (zax u false 1))) b (zaE u false 1) (zax u false 1):=zaZ hr2.lt
     have e1:(1:Int).toNat=1:=rfl
     rw [e1]
     try simp
     refine (zbd hr4).mono ?_
     rintro v H5 ⟨rfl,rfl⟩
     cases u with
     |nil=>
      rw [hc0,hc]
      simp [zax,zaE,zar,LOk,tup,zam]
     |cons x w=>
      rw [hc0,hc]
      have e2:zax (x::w) false 1=false:=by simp [zax]
      have e3:zaE (x::w) false 1=w:=by simp [zaE]
      have e4:zar (x::w) false 1= [x]:=by simp [zar]
      rw [e2,e3] at hr4
      simp [e2,e3,e4]
      refine (zpm x n (by omega)).mono ?_
      rintro v H6 ⟨rfl,rfl⟩
      simp [LOk,tup]
      exact ⟨hr4,kput _ _ hkq2⟩
    by_cases k2:k.toNat=2
    ·have hc:zcO k n u=zb0 u n:=by
      unfold zcO;rw [if_neg k0,if_neg k1,if_pos k2]
     simp [k2]
     refine (zll hr2 (by omega) n (by omega)).mono ?_
     rintro v H4 hv
     rw [hc0,hc]
     cases hlc:zb0 u n with
     |none=>
      rw [hlc] at hv
      obtain rfl:=hv
      simp [LOk,tup]
     |some p=>
      rw [hlc] at hv
      obtain ⟨rfl,hr,hk4⟩:=hv
      simp [LOk,tup]
      exact ⟨hr,Nat.le_trans hkq2.1 hk4.1,fun k h1 h2=>by rw [hk4.2 k (Nat.lt_of_lt_of_le h1 hkq2.1) h2];exact hkq2.2 k h1 h2⟩
    ·have hc:zcO k n u=none:=by
      unfold zcO;rw [if_neg k0,if_neg k1,if_neg k2]
     have j0:¬(k.toNat:Int)=0:=by omega
     have j1:¬(k.toNat:Int)=1:=by omega
     have j2:¬(k.toNat:Int)=2:=by omega
     rw [hc0,hc]
     simp [k0,k1,k2,j0,j1,j2,LOk,tup,zam]
end
set_option maxHeartbeats 8000000
theorem zkq {s:Bytes}:∀(f r a:Nat) {p:List Nat×Nat},hdD s f r a=some p→p.1.sum=r∧p.1.length≤f
 |f,0,a,p,h=>by
  have:hdD s f 0 a=some ([],a):=by cases f<;>rfl
  rw [this] at h;cases h;simp
 |0,r+1,a,p,h=>by cases h
 |f+1,r+1,a,p,h=>by
  simp only [hdD] at h
  split at h
  ·rename_i hc
   simp only [Option.map_eq_some_iff] at h
   obtain ⟨q,hq,rfl⟩:=h
   obtain ⟨h1,h2⟩:=zkq f _ _ hq
   refine ⟨?_,by simp;omega⟩
   simp only [List.sum_cons,h1];omega
  ·cases h
theorem znm (s:Bytes):hdT s=(zdx s).bind fun p=>if ended s p.2 then some (p.1,zav s 0 3+5) else none:=by
 unfold hdT zdx;split<;>rfl
theorem zkr {s:Bytes} {p:List Nat×Nat} (h:zdx s=some p):Fr (zav s 0 3+5) p.1:=by
 unfold zdx at h
 split at h
 ·rename_i hc
  obtain ⟨h1,h2⟩:=zkq _ _ _ h
  exact ⟨by omega,hc.2,h1,h2⟩
 ·cases h
def Bw (N:Nat) (H:Heap) (w:Value) (l:Bytes):Prop:=∃a c,w= .slice a l.length c∧(0< l.length→∃bb o,a=some ⟨bb,o,none⟩∧N≤bb∧bb< H.next∧zaP H 5 1 l.length a=some (bvs l))
theorem ziH {H H':Heap} {t n bb o:Nat} (h:H'.get bb=H.get bb):zaP H' t 1 n (some ⟨bb,o,none⟩)=zaP H t 1 n (some ⟨bb,o,none⟩):=by
 unfold zaP;simp only [h]
theorem Bw.kp {N:Nat} {H H':Heap} {w:Value} {l:Bytes} (h:Bw N H w l) (hk:∀k,N≤k→k< H.next→H'.get k=H.get k) (hn:H.next≤H'.next):Bw N H' w l:=by
 obtain ⟨a,c,h1,h3⟩:=h
 refine ⟨a,c,h1,fun hp=>?_⟩
 obtain ⟨bb,o,rfl,g1,g2,g3⟩:=h3 hp
 exact ⟨bb,o,rfl,g1,by omega,by rw [ziH (hk bb g1 g2)];exact g3⟩
theorem Bw.mono {N N':Nat} {H:Heap} {w:Value} {l:Bytes} (h:Bw N H w l) (hN:N'≤N):Bw N' H w l:=by
 obtain ⟨a,c,h1,h3⟩:=h
 refine ⟨a,c,h1,fun hp=>?_⟩
 obtain ⟨bb,o,rfl,g1,g2,g3⟩:=h3 hp
 exact ⟨bb,o,rfl,by omega,g2,g3⟩
theorem zbD {H:Heap} {b:Nat} {l:Bytes} {rw:Bool} (h:H.get b= .cells (bvs l) 5 rw):zaP H 5 1 l.length (some ⟨b,0,none⟩)=some (bvs l):=by
 have hl:(bvs l).length=l.length:=by simp [bvs]
 simp only [zaP,h,if_true,rd]
 rw [if_pos (by omega),List.drop_zero,List.take_of_length_le (by omega)]
theorem Bw.push {H:Heap} (l:Bytes) (c:Nat):Bw H.next (H.push (.cells (bvs l) 5 true)) (.slice (some ⟨H.next,0,none⟩) l.length c) l:=
 ⟨_,_,rfl,fun _=>⟨H.next,0,rfl,Nat.le_refl _,by simp,zbD zaf⟩⟩
theorem Acc.bw {N M:Nat} {H:Heap} {v:Value} {l:Bytes} (h:Acc 5 1 N M H v l.length (bvs l)):Bw N H v l:=by
 rcases h with ⟨h1,h2,h3⟩|⟨b,c,h1,h2,h3,_,h4,h5⟩
 ·exact ⟨none,0,by rw [h3,h1],fun h=>by omega⟩
 ·exact ⟨_,_,h3,fun _=>⟨b,0,rfl,h1,zai h4,zbD h4⟩⟩
theorem zks (l:List Nat) (h:∀x∈l,x< 256):bys l=bvs (l.map UInt8.ofNat):=by
 unfold bys bvs
 rw [List.map_map]
 apply List.map_congr_left
 intro x hx
 have:=h x hx
 simp [bv,Function.comp,UInt8.toNat_ofNat,Nat.mod_eq_of_lt this]
theorem zkt {log:Nat} {sh:List Nat} (hf:Fr log sh) {W:Nat}:∀m st n {r:List Nat×Nat×Nat},zbU log sh W m st n=some r→∀x∈r.1,x< 256
 |0,st,n,r,h,x,hx=>by simp only [zbU] at h;cases h;simp at hx
 |m+1,st,n,r,h,x,hx=>by
  simp only [zbU] at h
  split at h
  ·simp only [Option.map_eq_some_iff] at h
   obtain ⟨q,hq,rfl⟩:=h
   rcases List.mem_cons.1 hx with rfl|hx
   ·rw [List.getD_eq_getElem?_getD]
    cases hs:(zaH log sh)[st]? with
    |none=>simp
    |some y=>have:=zkd hf (List.mem_of_getElem? hs);have:=hf.len;simp;omega
   ·exact zkt hf _ _ _ hq x hx
  ·cases h
theorem zku {log:Nat} {sh:List Nat} (hf:Fr log sh) {b:Bytes} {m:Nat} {l:List Nat} (h:zcu log sh b m=some l):∀x∈l,x< 256:=by
 unfold zcu at h
 cases ho:opN b with
 |none=>rw [ho] at h;cases h
 |some n=>
  rw [ho] at h
  simp only [Option.bind_some] at h
  split at h
  ·cases hd:zbU log sh (zct b) m (zav b (n - log) log) (n - log) with
   |none=>rw [hd] at h;cases h
   |some r=>
    rw [hd] at h
    simp only [Option.bind_some] at h
    split at h
    ·cases h;exact zkt hf _ _ _ hd
    ·cases h
  ·cases h
theorem zgs {log:Nat} {sh:List Nat} {b:Bytes} {m:Nat} {l:List Nat} (h:zcu log sh b m=some l):l.length=m:=by
 unfold zcu at h
 cases ho:opN b with
 |none=>rw [ho] at h;cases h
 |some n=>
  rw [ho] at h
  simp only [Option.bind_some] at h
  split at h
  ·cases hd:zbU log sh (zct b) m (zav b (n - log) log) (n - log) with
   |none=>rw [hd] at h;cases h
   |some r=>
    rw [hd] at h
    simp only [Option.bind_some] at h
    split at h
    ·cases h;exact zil _ _ _ hd
    ·cases h
  ·cases h
section
variable {H:Heap} {b:Nat} {s:Bytes}
def UnO (b:Nat) (H:Heap) (v:Value) (H':Heap):Option (Bytes×Bytes)→Prop
 |none=>∃x,v= .tuple #[x,.bool false]
 |some p=>∃w,v= .tuple #[w,.bool true]∧Bw H.next H' w p.1∧Rd H' b p.2 false
def RdA (H:Heap) (b:Nat):Prop:=∃l bad,Rd H b l bad
def UnP (n b:Nat) (H:Heap) (v:Value) (H':Heap):Option (Bytes×Bytes)→Prop
 |none=>(∃x,v= .tuple #[x,.bool false])∧RdA H' b
 |some p=>∃w,v= .tuple #[w,.bool true]∧Bw H.next H' w p.1∧Rd H' b p.2 false∧p.1.length=n∧p.2.length≤100000
theorem zju (h:Rd H b s false) (hs:s.length≤100000) (n:Nat) (hn:n≤4096):Wf S 201 [.pointer (some ⟨b,0,none⟩),.int .i64 n] H fun v H'=>Kq b H H'∧UnP n b H v H' (shD s n):=by
 refine w201 rfl rfl _ _ ?_
 have hblt:=h.lt
 simp [s201]
 refine (zgh h 4096 (by omega)).mono ?_
 rintro v H1 ⟨rfl,rfl⟩
 obtain ⟨o1,ho1⟩:∃o1,o1=zas s false 4096:=⟨_,rfl⟩
 rw [←ho1]
 have hr1:Rd (H.put b (RdB (txL o1) o1.isNone)) b (txL o1) o1.isNone:=zaZ hblt
 try simp
 refine (zgh hr1 4096 (by omega)).mono ?_
 rintro v H2 ⟨rfl,rfl⟩
 rw [zbh]
 obtain ⟨o2,ho2⟩:∃o2,o2=zas (txL o1) o1.isNone 4096:=⟨_,rfl⟩
 rw [←ho2]
 have hr2:Rd (H.put b (RdB (txL o2) o2.isNone)) b (txL o2) o2.isNone:=zaZ hblt
 have hkq:Kq b H (H.put b (RdB (txL o2) o2.isNone)):=Kq.put
 have hnx:(H.put b (RdB (txL o2) o2.isNone)).next=H.next:=next_put
 try simp
 refine (zbd hr2).mono ?_
 rintro v H3 ⟨rfl,rfl⟩
 cases o1 with
 |none=>
  have hn2:o2=none:=by rw [ho2];simp [zas,zao,zaz]
  have hz:shD s n=none:=by unfold shD;rw [←ho1];rfl
  rw [hz,hn2]
  simp [tup,UnP]
  rw [hn2] at hkq hr2
  exact ⟨hkq,⟨_,_,hr2⟩⟩
 |some h1=>
  cases o2 with
  |none=>
   have hz:shD s n=none:=by unfold shD;rw [←ho1];simp only [Option.bind_some];simp only [txL,Option.isNone_some] at ho2;rw [←ho2];rfl
   rw [hz]
   simp [tup,UnP]
   exact ⟨hkq,⟨_,_,hr2⟩⟩
  |some b2=>
   simp only [txL,txS,Option.isNone_some] at*
   have hz:shD s n=(hdT h1.1).bind fun p=>(zcu p.2 p.1 b2.1 n).map fun l=>(l.map UInt8.ofNat,b2.2):=by unfold shD;rw [←ho1];simp only [Option.bind_some];rw [←ho2];rfl
   have l1:=zby ho1.symm
   have l2:=zby ho2.symm
   have hsb:=fun K H=>zb1 (S:=S) (e:= []) (K:=K) (H:=H) (l:=h1.1) (t:=5) (by unfold zag;omega)
   have hsb2:=fun K H=>zb1 (S:=S) (e:= []) (K:=K) (H:=H) (l:=b2.1) (t:=5) (by unfold zag;omega)
   simp [hsb]
   obtain ⟨H4,hH4⟩:∃H4,H4=H.put b (RdB b2.2 false):=⟨_,rfl⟩
   rw [←hH4] at hr2 hkq hnx⊢
   have hrow:=zbD (zaf (H:=H4) (b:= .cells (bvs h1.1) 5 true))
   refine (zco (c:=zat) hrow (by omega)).mono ?_
   rintro v H5 ⟨sv,rb,rfl,hb1,hb2,hgb,hby,hk5⟩
   try simp
   refine (zox hgb hby (by omega)).mono ?_
   intro v H6 hv
   have hnx5:H.next< H5.next∧H.next≤rb:=by have:=hk5.1;simp at this hb1;omega
   have kq5:Kq b H H5:=⟨by omega,fun k hk hkb=>by
    rw [hk5.2 k (by simp;omega),zae (by omega)];exact hkq.2 k hk hkb⟩
   have rd5:Rd H5 b b2.2 false:=by
    unfold Rd
    rw [hk5.2 b (by simp;omega),zae (by omega)];exact hr2
   have step6:∀HX:Heap,Kq rb H5 HX→Kq b H HX∧Rd HX b b2.2 false:=fun HX hk=>by
    refine ⟨⟨by have:=hk.1;omega,fun k hk1 hkb=>?_⟩,?_⟩
    ·rw [hk.2 k (by omega) (by omega)];exact kq5.2 k hk1 hkb
    ·unfold Rd;rw [hk.2 b (by omega) (by omega)];exact rd5
   rw [znm] at hz
   cases ht:zdx h1.1 with
   |none=>
    rw [ht] at hv hz
    obtain ⟨rfl,hk6⟩:=hv
    rw [hz]
    simp [tup,UnP]
    exact ⟨(step6 _ hk6).1,⟨_,_,(step6 _ hk6).2⟩⟩
   |some p=>
    rw [ht] at hv hz
    have hfr:=zkr ht
    obtain ⟨log,hlog⟩:∃log,log=zav h1.1 0 3+5:=⟨_,rfl⟩
    rw [←hlog] at hv hfr hz
    obtain ⟨w,rfl,hacc,hg6,ha6,hk6⟩:=hv
    obtain ⟨sh,ea⟩:=p
    simp only at hacc hg6 ha6 hfr hz
    simp only [Option.bind_some] at hz
    simp
    refine (zkk hg6 (hby.kq hk6) (by omega) ha6).mono ?_
    rintro v H7 ⟨rfl,ea',rfl⟩
    by_cases hen:ended h1.1 ea
    ·rw [if_pos hen] at hz
     rw [decide_eq_true hen]
     simp only [Option.bind_some] at hz
     have hk7:Kq rb H5 (H6.put rb (BrB sv ea')):=hk6.trans Kq.put
     have hacc7:Acc 3 1 H5.next H6.next (H6.put rb (BrB sv ea')) w sh.length (zba sh):=hacc.kp fun k hk _=>zaa (by omega)
     have hnx7:(H6.put rb (BrB sv ea')).next=H6.next:=next_put
     obtain ⟨H7,hH7⟩:∃H7,H7=H6.put rb (BrB sv ea'):=⟨_,rfl⟩
     rw [←hH7] at hk7 hacc7 hnx7⊢
     obtain ⟨k7,r7⟩:=step6 _ hk7
     obtain ⟨wa,wc,rfl,hwrow⟩:=hacc7.row
     obtain ⟨wa2,wc2,hwe,hwnv,_⟩:=hacc7.nv rfl
     cases hwe
     simp
     refine (zoA hwrow hwnv hfr).mono ?_
     rintro v H8 ⟨rfl,htb,hk8⟩
     simp [hsb2]
     have hnx8:=hk8.1
     have htb2:Tb H7.next log sh (H8.push (.cells (bvs b2.1) 5 true)):=htb.kp fun k _ hk=>zae (by have:=htb.lt;omega)
     have hrow2:=zbD (zaf (H:=H8) (b:= .cells (bvs b2.1) 5 true))
     refine (zla (c:=zat) htb2 hfr hrow2 (fun _=>⟨_,_,rfl⟩) (by omega) n (by omega)).mono ?_
     rintro v H9 ⟨hk9,hv9⟩
     have hn9:=hk9.1
     simp at hn9
     have kq9:Kq b H H9:=⟨by have:=k7.1;omega,fun k hk hkb=>by
      rw [hk9.2 k (by simp;have:=k7.1;omega),zae (by have:=k7.1;omega),hk8.2 k (by have:=k7.1;omega)]
      exact k7.2 k hk hkb⟩
     have rd9:Rd H9 b b2.2 false:=by
      unfold Rd
      rw [hk9.2 b (by simp;have:=k7.1;omega),zae (by have:=k7.1;omega),hk8.2 b (by have:=k7.1;omega)]
      exact r7
     cases hf:zcu log sh b2.1 n with
     |none=>
      rw [hf] at hv9 hz
      simp only [FdO] at hv9
      subst hv9
      rw [hz]
      simp [tup,UnP]
      exact ⟨kq9,⟨_,_,rd9⟩⟩
     |some l=>
      rw [hf] at hv9 hz
      obtain ⟨w9,rfl,hacc9⟩:=hv9
      rw [hz]
      simp only [Option.map_some,UnP]
      simp [tup]
      refine ⟨kq9,?_,rd9,by simpa using zgs hf,by omega⟩
      have hl256:=zku hfr hf
      rw [zks l hl256] at hacc9
      have:=Acc.bw (l:=l.map UInt8.ofNat) (by simpa using hacc9)
      exact this.mono (by have:=k7.1;omega)
    ·rw [if_neg hen] at hz
     rw [decide_eq_false hen,hz]
     simp [tup,UnP]
     exact ⟨(step6 _ (hk6.trans Kq.put)).1,⟨_,_,(step6 _ (hk6.trans Kq.put)).2⟩⟩
end
theorem Bw.ld {N:Nat} {H:Heap} {w:Value} {l:Bytes} (h:Bw N H w l) {i:Nat} {x:UInt8} (hx:l[i]? =some x):∃bb o c,w= .slice (some ⟨bb,o,none⟩) l.length c∧kLd H (.pointer (some ⟨bb,o+i,none⟩))=some (bv x):=by
 obtain ⟨a,c,rfl,h3⟩:=h
 have hi:i< l.length:=(List.getElem?_eq_some_iff.1 hx).1
 obtain ⟨bb,o,rfl,g1,g2,g3⟩:=h3 (by omega)
 refine ⟨bb,o,c,rfl,?_⟩
 rw [zgi g3 hi]
 simp [bvs,hx]
section
variable {H:Heap} {b:Nat} {s:Bytes}
theorem zqP (x:UInt8):Wf S 203 [bv x] H fun v H'=>H'=H∧v= .bool (decide (28≤x.toNat)):=by
 refine w203 rfl rfl _ ?_
 by_cases h:28≤x.toNat
 ·have h':(28:Int)≤x.toNat:=by omega
  simp [s203,bv,h,h']
 ·have h':¬(28:Int)≤x.toNat:=by omega
  simp [s203,bv,h,h']
def zcz (l:Bytes):Prop:=∀x∈l,x.toNat< 28
theorem znn {N:Nat} {w:Value} {l:Bytes} (h:Bw N H w l) (hl:l.length≤1000000):Wf S 239 [w,.func (.func 203) #[] #[]] H fun v H'=>H'=H∧∃z:Int,v= .int .i64 z∧(0≤z↔¬zcz l):=by
 refine w239 rfl rfl _ _ ?_
 obtain ⟨a,c,hw,_⟩:=id h
 have hlen:∀K:Kv,run S (.lenL (.c w)) [] H K=K (.int .i64 l.length) H:=fun K=>by rw [hw];simp
 simp [s239,hlen]
 refine l239_0 S (fun d e H'=>∃i:Nat,i≤l.length∧d=l.length - i∧H'=H∧zcz (l.take i)∧e 0=w∧e 1= .func (.func 203) #[] #[]∧e 7= .int .i64 l.length∧e 8= .int .i64 i) l.length ⟨0,by omega,by omega,rfl,(fun x hx=>by simp at hx),by simp,by simp,by simp,by simp⟩ ?_
 rintro d e H' ⟨i,hi,rfl,rfl,hall,e0,e1,e7,e8⟩
 by_cases h3:i< l.length
 ·obtain ⟨x,hx⟩:∃x,l[i]? =some x:=⟨_,List.getElem?_eq_getElem h3⟩
  obtain ⟨bb,o,c2,rfl,hcell⟩:=h.ld hx
  have hw2:IntKind.i64.wrap ((i:Int)+1)=(i:Int)+1:=wi (by omega) (by omega)
  simp [s239_0,e0,e1,e7,e8,h3,zac,hcell]
  refine (zqP x).mono ?_
  rintro v H1 ⟨rfl,rfl⟩
  by_cases h4:28≤x.toNat
  ·rw [decide_eq_true h4]
   simp [e8]
   exact fun hA=>by have:=hA x (List.mem_of_getElem? hx);omega
  ·rw [decide_eq_false h4]
   simp [e0,e1,e7,e8,hw2]
   refine ⟨l.length - (i+1),by omega,i+1,by omega,rfl,?_,by omega⟩
   intro y hy
   rw [List.take_add_one,hx] at hy
   rcases List.mem_append.1 hy with hy|hy
   ·exact hall y hy
   ·simp at hy;subst hy;omega
 ·have h5:i=l.length:=by omega
  subst h5
  rw [List.take_length] at hall
  simp [s239_0,e7,e8,hall]
theorem zef {N:Nat} {w:Value} {l:Bytes} (h:Bw N H w l) (hl:l.length≤1000000) [Decidable (zcz l)]:Wf S 202 [w,.func (.func 203) #[] #[]] H fun v H'=>H'=H∧v= .bool (!decide (zcz l)):=by
 refine w202 rfl rfl _ _ ?_
 simp [s202]
 refine (znn h hl).mono ?_
 rintro v H1 ⟨rfl,z,rfl,hz⟩
 by_cases h0:0≤z
 ·have:=hz.1 h0
  simp [h0,this]
 ·have:zcz l:=by
   by_cases hk:zcz l
   ·exact hk
   ·exact absurd (hz.2 hk) h0
  simp [h0,this]
theorem zoN (n:Nat) (hn:n≤1000000):Wf S 159 [.int .u64 1,.int .u64 n] H fun v H'=>H'=H∧v= .tuple #[.int .u64 0,.int .u64 n]:=by
 refine w159 rfl rfl _ _ ?_
 have a1:zau .and (.int .u64 (n:Int)) (.int .u64 4294967295)=some (.int .u64 (n:Int)):=by
  have h:=zdJ (k:= .u64) (a:=n) (b:=4294967295) (by show n< 2 ^ 64;omega) (by decide)
  have e:n &&& 4294967295=n:=by have:=zdK n 32;rw [show (2:Nat) ^ 32 - 1=4294967295 from rfl] at this;rw [this];exact Nat.mod_eq_of_lt (by omega)
  rw [e,wu64 (by omega) (by omega)] at h
  exact h
 have a2:zau .shr (.int .u64 (n:Int)) (.int .u64 32)=some (.int .u64 0):=by
  rw [zcw,if_neg (by omega)]
  have hm:min (32:Int).toNat IntKind.u64.bits=32:=by decide
  rw [hm,Int.fdiv_eq_ediv_of_nonneg _ (by decide)]
  congr 2
  have:(n:Int) / 2 ^ 32=0:=Int.ediv_eq_zero_of_lt (by omega) (by omega)
  exact this
 have b1:zau .and (.int .u64 1) (.int .u64 4294967295)=some (.int .u64 1):=by kernel_rfl
 have b2:zau .shr (.int .u64 1) (.int .u64 32)=some (.int .u64 0):=by kernel_rfl
 have b3:zau .and (.int .u64 0) (.int .u64 4294967295)=some (.int .u64 0):=by kernel_rfl
 have b4:zau .shr (.int .u64 0) (.int .u64 32)=some (.int .u64 0):=by kernel_rfl
 have w1:IntKind.u64.wrap (n:Int)=n:=wu64 (by omega) (by omega)
 have w0:IntKind.u64.wrap 0=0:=by decide
 simp [s159,a1,a2,b1,b2,b3,b4,w1,w0,tup]
theorem zrM (n:Nat) (hn:n≤1000000):Wf S 120 [.int .u64 1,.int .u64 n] H fun v H'=>H'=H∧v= .tuple #[.int .u64 0,.int .u64 n]:=by
 refine w120 rfl rfl _ _ ?_
 simp [s120]
 refine (zoN n hn).mono ?_
 rintro v H1 ⟨rfl,rfl⟩
 simp [tup]
def rpL (x:UInt8) (n q:Nat):List Value:=List.replicate q (bv x)++List.replicate (n - q) (.int .u8 0)
theorem zkv {x:UInt8} {n q:Nat} (h:q≤n):(rpL x n q).length=n:=by simp [rpL];omega
theorem zno {x:UInt8} {n q:Nat} (h:q≤n):wr (rpL x n q) q ((rpL x n q).take (min q (n - q)))=rpL x n (q+min q (n - q)):=by
 obtain ⟨m,hm⟩:∃m,m=min q (n - q):=⟨_,rfl⟩
 rw [←hm]
 have h1:(rpL x n q).take m=List.replicate m (bv x):=by
  unfold rpL
  rw [List.take_append_of_le_length (by simp;omega),List.take_replicate]
  congr 1;omega
 rw [h1]
 unfold wr rpL
 rw [List.take_append_of_le_length (by simp),List.take_replicate,Nat.min_self,List.length_replicate,List.drop_append,List.length_replicate,List.drop_eq_nil_of_le (by simp),List.nil_append,List.drop_replicate,←List.replicate_append_replicate]
 rw [show q+m - q=m by omega,show n - q - m=n - (q+m) by omega]
theorem znp {x:UInt8} {a:Option Addr} {c:Nat} (hr:zaP H 5 1 1 a=some [bv x]) (ha:∃bb o,a=some ⟨bb,o,none⟩∧bb< H.next) (n:Nat) (h1:1≤n) (hn:n≤4096):Wf S 200 [.slice a 1 c,.int .i64 n] H fun v H'=>Kp H.next H H'∧Bw H.next H' v (List.replicate n x):=by
 refine w200 rfl rfl _ _ ?_
 have h0:¬(n:Int)< 0:=by omega
 have wu:IntKind.u64.wrap (n:Int)=n:=wu64 (by omega) (by omega)
 have w1:IntKind.u64.wrap 1=1:=by decide
 simp [s200,h0,wu,w1]
 refine (zrM n (by omega)).mono ?_
 rintro v H1 ⟨rfl,rfl⟩
 have g1:¬(9223372036854775807:Int)< n:=by omega
 have g1':¬9223372036854775807< n:=by omega
 have wi1:IntKind.i64.wrap (n:Int)=n:=wi (by omega) (by omega)
 have c1:(n:Int)≤9223372036854775807:=by omega
 have c2:(n:Int)≤281474976710656:=by omega
 have hz:zeros [.int .u8 0] n=rpL x n 0:=by simp [zeros,rpL]
 simp [g1,g1',wi1,zcA,c1,c2,hz]
 obtain ⟨bb,o,rfl,hbl⟩:=ha
 obtain ⟨cs2,rw2,hg2,ho,htk⟩:∃cs2 rw2,H1.get bb= .cells cs2 5 rw2∧o+1≤cs2.length∧(cs2.drop o).take 1= [bv x]:=by
  unfold zaP at hr
  simp only at hr
  split at hr
  ·rename_i cc tt rr hgg
   split at hr
   ·rename_i ht
    subst ht
    obtain ⟨q1,q2⟩:=rd_some hr
    exact ⟨cc,rr,hgg,by omega,q2.symm⟩
   ·cases hr
  ·cases hr
 obtain ⟨M,hM⟩:∃M,M=H1.next:=⟨_,rfl⟩
 have gM:(H1.push (.cells (rpL x n 0) 5 true)).get M= .cells (rpL x n 0) 5 true:=by rw [hM];exact zaf
 have gB:(H1.push (.cells (rpL x n 0) 5 true)).get bb= .cells cs2 5 rw2:=by rw [zae hbl];exact hg2
 have hk0:Kp H1.next H1 (H1.push (.cells (rpL x n 0) 5 true)):=Kp.push (Nat.le_refl _)
 have hnx0:(H1.push (.cells (rpL x n 0) 5 true)).next=M+1:=by rw [hM];simp
 obtain ⟨H2,hH2⟩:∃H2,H2=H1.push (.cells (rpL x n 0) 5 true):=⟨_,rfl⟩
 rw [←hH2] at gM gB hk0 hnx0⊢
 have hlen0:=zkv (x:=x) (n:=n) (q:=0) (by omega)
 have hcp:=fun K=>zhx (S:=S) (K:=K) (H:=H2) (n:=n) (c:=n) (m:=1) (c2:=c) (ao:=0) (bo:=o) gM gB (by omega) (by rw [hlen0];omega)
 have hm1:min 1 n=1:=by omega
 rw [hm1,htk] at hcp
 have hw0:wr (rpL x n 0) 0 [bv x]=rpL x n 1:=by
  obtain ⟨n',rfl⟩:∃n',n=n'+1:=⟨n - 1,by omega⟩
  simp [wr,rpL,List.replicate_succ]
 rw [hw0] at hcp
 rw [←hM,hcp]
 refine l200_0 S (fun d e H'=>∃q,1≤q∧q≤n∧d=n - q∧e 7= .slice (some ⟨M,0,none⟩) n n∧e 8= .int .i64 (q:Nat)∧H'=H2.put M (.cells (rpL x n q) 5 true)) (n - 1) ⟨1,by omega,h1,rfl,by simp,by simp,rfl⟩ ?_
 rintro d e H' ⟨q,hq1,hqn,rfl,e7,e8,rfl⟩
 have gq:(H2.put M (.cells (rpL x n q) 5 true)).get M= .cells (rpL x n q) 5 true:=zad (by omega)
 have hlq:=zkv (x:=x) hqn
 by_cases h3:q< n
 ·have h3':(q:Int)< n:=by omega
  obtain ⟨H3,hH3⟩:∃H3,H3=H2.put M (.cells (rpL x n q) 5 true):=⟨_,rfl⟩
  have hpp:∀z,H3.put M z=H2.put M z:=fun z=>by rw [hH3,zbh]
  rw [←hH3] at gq⊢
  have s1:=fun K=>zcL (S:=S) (K:=K) (o:=0) (n:=n) (c:=n) (m:=q) (.inr (Nat.le_refl _)) gq hqn
  have s2:=fun K=>zeL (S:=S) (K:=K) (o:=0) (n:=n) (c:=n) (m:=q) (.inr (Nat.le_refl _)) gq hqn
  have hcx:¬n=zat:=by have:zag< zat:=by decide
                      unfold zag at this;omega
  have hqn2:¬q=n:=by omega
  simp only [hcx,hqn2,ne_eq,not_false_eq_true,and_false,if_false,Nat.zero_add] at s1 s2
  have s3:=fun K=>zhx (S:=S) (K:=K) (H:=H3) (n:=n - q) (c:=n - q) (m:=q) (c2:=n) (ao:=q) (bo:=0) gq gq (by rw [hlq];omega) (by rw [hlq];omega)
  rw [List.drop_zero,zno hqn,hpp] at s3
  have wq:IntKind.i64.wrap ((q:Int)+((min q (n - q):Nat):Int))=((q+min q (n - q):Nat):Int):=by rw [wi (by omega) (by omega)];omega
  obtain ⟨mm,hmm⟩:∃mm,mm=min q (n - q):=⟨_,rfl⟩
  rw [←hmm] at s3 wq
  simp [s200_0,e7,e8,h3,h3',s1,s2,s3]
  refine ⟨n - (q+mm),by omega,q+mm,by omega,by omega,rfl,?_,rfl⟩
  rw [wq]
 ·have h5:q=n:=by omega
  subst h5
  simp [s200_0,e7,e8]
  refine ⟨by rw [hM];exact hk0.trans (Kp.put (Nat.le_refl _)),?_⟩
  have hrp:rpL x q q=bvs (List.replicate q x):=by simp [rpL,bvs]
  rw [hrp]
  refine ⟨_,_,by simp;rfl,fun _=>⟨M,0,rfl,by omega,by rw [next_put];omega,?_⟩⟩
  exact zbD (zad (by omega))
end
instance (l:Bytes):Decidable (zcz l):=by unfold zcz;infer_instance
theorem zdC (p:Bytes×Bytes):chk28 p=if zcz p.1 then some p else none:=by
 unfold chk28
 have:(p.1.all (fun c=>c.toNat< 28)=true)↔zcz p.1:=by
  rw [List.all_eq_true];unfold zcz;simp
 by_cases h:zcz p.1
 ·rw [if_pos (this.2 h),if_pos h]
 ·rw [if_neg (fun e=>h (this.1 e)),if_neg h]
theorem zeP {k:UInt8} {u:Bytes} {n:Nat} (hn:n≤4096):unS (k::u) n=if k.toNat=0 then (if n≤u.length then chk28 (u.take n,u.drop n) else none) else if k.toNat=1 then (match u with| []=>none|x::w=>if x.toNat< 28 then some (List.replicate n x,w) else none) else if k.toNat=2 then (shD u n).bind chk28 else none:=by
 unfold unS;rw [if_neg (by omega)];rfl
section
variable {H:Heap} {b:Nat} {s:Bytes}
theorem zjv (h:Rd H b s false) (hs:s.length≤100000) (n:Nat) (h1:1≤n) (hn:n≤4096):Wf S 162 [.pointer (some ⟨b,0,none⟩),.int .i64 n] H fun v H'=>Kq b H H'∧UnO b H v H' (unS s n):=by
 refine w162 rfl rfl _ _ ?_
 have hblt:=h.lt
 have n0:¬(n:Int)< 0:=by omega
 have n1:¬(4096:Int)< n:=by omega
 have n1':¬4096< n:=by omega
 simp [s162]
 refine (zeD h).mono ?_
 rintro v H1 ⟨rfl,hr1,hn1,hold1⟩
 have hkq1:Kq b H H1:=⟨hn1,hold1⟩
 cases s with
 |nil=>
  have hb1:zax [] false 1=true:=rfl
  have hz:unS [] n=none:=by unfold unS;rw [if_neg n1']
  rw [hb1] at hr1
  rw [hz]
  try simp
  refine (zbd hr1).mono ?_
  rintro v H2 ⟨rfl,rfl⟩
  simp [tup,UnO]
  exact hkq1
 |cons k u=>
  have hb1:zax (k::u) false 1=false:=by simp [zax]
  have hl1:zaE (k::u) false 1=u:=by simp [zaE]
  have ho1:(zar (k::u) false 1).headD 0=k:=by simp [zar]
  rw [hb1,hl1] at hr1
  rw [ho1]
  have hk8:=k.toNat_lt
  try simp
  refine (zbd hr1).mono ?_
  rintro v H2 ⟨rfl,rfl⟩
  simp only [List.length_cons] at hs
  have hz:=zeP (k:=k) (u:=u) (n:=n) (by omega)
  by_cases k0:k.toNat=0
  ·rw [if_pos k0] at hz
   simp [n0,n1,n1',k0]
   refine (zde hr1 n).mono ?_
   rintro v H3 ⟨rfl,rfl⟩
   rw [Int.toNat_natCast]
   have hr3:Rd (H2.put b (RdB (zaE u false n) (zax u false n))) b (zaE u false n) (zax u false n):=zaZ hr1.lt
   have hkq3:Kq b H (H2.put b (RdB (zaE u false n) (zax u false n))):=hkq1.trans Kq.put
   obtain ⟨H3,hH3⟩:∃H3,H3=H2.put b (RdB (zaE u false n) (zax u false n)):=⟨_,rfl⟩
   rw [←hH3] at hr3 hkq3⊢
   have hol:(zar u false n).length≤u.length:=by unfold zar;split<;>simp;omega
   rw [zb1 (by unfold zag;omega)]
   have hbw:=Bw.push (H:=H3) (zar u false n) zat
   have hk4:Kp H3.next H3 (H3.push (.cells (bvs (zar u false n)) 5 true)):=Kp.push (Nat.le_refl _)
   have hr4:Rd (H3.push (.cells (bvs (zar u false n)) 5 true)) b (zaE u false n) (zax u false n):=by unfold Rd;rw [zae hr3.lt];exact hr3
   have hkq4:=hkq3.trans (Kq.of hk4)
   obtain ⟨H4,hH4⟩:∃H4,H4=H3.push (.cells (bvs (zar u false n)) 5 true):=⟨_,rfl⟩
   rw [←hH4] at hbw hk4 hr4 hkq4⊢
   try simp
   refine (zbd hr4).mono ?_
   rintro v H5 ⟨rfl,rfl⟩
   by_cases hle:n≤u.length
   ·have g3:¬u.length< n:=by omega
    have e1:zax u false n=false:=by simp [zax,g3]
    have e2:zaE u false n=u.drop n:=by simp [zaE,g3]
    have e3:zar u false n=u.take n:=by simp [zar,g3]
    rw [e1,e2] at hr4
    rw [e3] at hbw
    rw [e1,e3]
    rw [if_pos hle,zdC] at hz
    try simp
    have hC:=zef (l:=u.take n) hbw (by rw [List.length_take];omega)
    rw [List.length_take] at hC
    refine hC.mono ?_
    rintro v H6 ⟨rfl,rfl⟩
    by_cases hok:zcz (u.take n)
    ·rw [if_pos hok] at hz
     rw [hz]
     simp [hok,tup,UnO]
     have hbm:=hbw.mono (N':=H.next) (by have:=hkq3.1;omega)
     rw [List.length_take] at hbm
     exact ⟨hkq4,hbm,hr4⟩
    ·rw [if_neg hok] at hz
     rw [hz]
     simp [hok,tup,UnO]
     exact hkq4
   ·have g3:u.length< n:=by omega
    have e1:zax u false n=true:=by simp [zax,g3]
    rw [if_neg hle] at hz
    rw [e1,hz]
    simp [tup,UnO]
    exact hkq4
  rw [if_neg k0] at hz
  have k0':¬(k.toNat:Int)=0:=by omega
  by_cases k1:k.toNat=1
  ·rw [if_pos k1] at hz
   simp [n0,n1,n1',k1]
   refine (zde hr1 1).mono ?_
   rintro v H3 ⟨rfl,rfl⟩
   rw [show (1:Int).toNat=1 from rfl]
   have hr3:Rd (H2.put b (RdB (zaE u false 1) (zax u false 1))) b (zaE u false 1) (zax u false 1):=zaZ hr1.lt
   have hkq3:Kq b H (H2.put b (RdB (zaE u false 1) (zax u false 1))):=hkq1.trans Kq.put
   obtain ⟨H3,hH3⟩:∃H3,H3=H2.put b (RdB (zaE u false 1) (zax u false 1)):=⟨_,rfl⟩
   rw [←hH3] at hr3 hkq3⊢
   have hol:(zar u false 1).length≤1:=by unfold zar;split<;>simp;omega
   rw [zb1 (by unfold zag;omega)]
   have hrow0:=zbD (zaf (H:=H3) (b:= .cells (bvs (zar u false 1)) 5 true))
   have hk4:Kp H3.next H3 (H3.push (.cells (bvs (zar u false 1)) 5 true)):=Kp.push (Nat.le_refl _)
   have hr4:Rd (H3.push (.cells (bvs (zar u false 1)) 5 true)) b (zaE u false 1) (zax u false 1):=by unfold Rd;rw [zae hr3.lt];exact hr3
   have hkq4:=hkq3.trans (Kq.of hk4)
   have hnl:H3.next< (H3.push (.cells (bvs (zar u false 1)) 5 true)).next:=by simp
   obtain ⟨H4,hH4⟩:∃H4,H4=H3.push (.cells (bvs (zar u false 1)) 5 true):=⟨_,rfl⟩
   rw [←hH4] at hrow0 hk4 hr4 hkq4 hnl⊢
   cases u with
   |nil=>
    have e1:zax [] false 1=true:=rfl
    have e3:zar [] false 1= []:=rfl
    rw [e1] at hr4
    rw [e3]
    rw [hz]
    try simp
    refine (zbd hr4).mono ?_
    rintro v H5 ⟨rfl,rfl⟩
    simp [tup,UnO]
    exact hkq4
   |cons x w=>
    have e1:zax (x::w) false 1=false:=by simp [zax]
    have e2:zaE (x::w) false 1=w:=by simp [zaE]
    have e3:zar (x::w) false 1= [x]:=by simp [zar]
    rw [e1,e2] at hr4
    rw [e3] at hrow0⊢
    simp only at hz
    have hrow1:zaP H4 5 1 1 (some ⟨H3.next,0,none⟩)=some [bv x]:=hrow0
    have hcell:kLd H4 (.pointer (some ⟨H3.next,0,none⟩))=some (.int .u8 x.toNat):=by have:=zgi hrow1 (i:=0) (by omega);simpa [bv] using this
    by_cases hx28:x.toNat< 28
    ·have hx28':(x.toNat:Int)< 28:=by omega
     rw [if_pos hx28] at hz
     rw [hz]
     simp [zac,hcell,hx28,hx28']
     refine (znp (c:=zat) hrow1 ⟨_,_,rfl,hnl⟩ n h1 hn).mono ?_
     rintro v H5 ⟨hk5,hbw⟩
     have hr5:Rd H5 b w false:=by unfold Rd;rw [hk5.2 b hr4.lt];exact hr4
     have hkq5:=hkq4.trans (Kq.of hk5)
     try simp
     refine (zbd hr5).mono ?_
     rintro v2 H6 ⟨rfl,rfl⟩
     try simp
     refine (zef (l:=List.replicate n x) hbw (by rw [List.length_replicate];omega)).mono ?_
     rintro v2 H7 ⟨rfl,rfl⟩
     have hok:zcz (List.replicate n x):=fun y hy=>by rw [(List.mem_replicate.1 hy).2];exact hx28
     simp [hok,tup,UnO]
     exact ⟨hkq5,hbw.mono (by have:=hkq4.1;omega),hr5⟩
    ·have hx28':¬(x.toNat:Int)< 28:=by omega
     rw [if_neg hx28] at hz
     rw [hz]
     simp [zac,hcell,hx28,hx28']
     refine (zbd hr4).mono ?_
     rintro v2 H6 ⟨rfl,rfl⟩
     simp [tup,UnO]
     exact hkq4
  rw [if_neg k1] at hz
  have k1':¬(k.toNat:Int)=1:=by omega
  by_cases k2:k.toNat=2
  ·rw [if_pos k2] at hz
   simp [n0,n1,n1',k2]
   refine (zju hr1 (by omega) n hn).mono ?_
   rintro v H3 ⟨hk3,hv⟩
   have hkq3:=hkq1.trans hk3
   cases hsd:shD u n with
   |none=>
    rw [hsd] at hv hz
    obtain ⟨⟨x,rfl⟩,l4,b4,hr4⟩:=hv
    rw [hz]
    try simp
    refine (zbd hr4).mono ?_
    rintro v2 H6 ⟨rfl,rfl⟩
    cases b4<;>simp [tup,UnO]<;>exact hkq3
   |some p=>
    rw [hsd] at hv hz
    obtain ⟨w,rfl,hbw,hr4,hpl,_⟩:=hv
    simp only [Option.bind_some] at hz
    rw [zdC] at hz
    try simp
    refine (zbd hr4).mono ?_
    rintro v2 H6 ⟨rfl,rfl⟩
    try simp
    refine (zef (l:=p.1) hbw (by omega)).mono ?_
    rintro v2 H7 ⟨rfl,rfl⟩
    by_cases hok:zcz p.1
    ·rw [if_pos hok] at hz
     rw [hz]
     simp [hok,tup,UnO]
     exact ⟨hkq3,hbw.mono (by have:=hkq1.1;omega),hr4⟩
    ·rw [if_neg hok] at hz
     rw [hz]
     simp [hok,tup,UnO]
     exact hkq3
  ·rw [if_neg k2] at hz
   have k2':¬(k.toNat:Int)=2:=by omega
   rw [hz]
   simp [n0,n1,n1',k0,k1,k2,k0',k1',k2',tup,UnO]
   exact hkq1
end
def uns (n:Nat):Nat→Bytes→Option (List Bytes×Bytes)
 |0,s=>some ([],s)
 |k+1,s=>(unS s n).bind fun a=>(uns n k a.2).map fun r=>(a.1::r.1,r.2)
def z3l:List Bytes→List (Nat×Nat×Nat)
 | [a,b,c]=>z3 a b c
 |_=> []
def sqT (l:List (Nat×Nat×Nat)) (s:Bytes):Option (List Sqt×Bytes):=(zas s false 4096).bind fun t=>(ssD t.1 l rc0 0).bind fun r=>if ended t.1 r.2 then some (r.1,t.2) else none
theorem zeQ (s:Bytes) (lim:Nat):zgA s lim=(zao s false (min lim 1000)).bind fun p=>if p.1=0 then some ([],p.2) else (uns p.1 3 p.2).bind fun l=>sqT (z3l l.1) l.2:=by
 unfold zgA
 congr 1
 funext p
 by_cases h:p.1=0
 ·rw [if_pos h,if_pos h]
 ·rw [if_neg h,if_neg h]
  simp only [uns]
  cases unS p.2 p.1 with
  |none=>rfl
  |some a=>
   simp only [Option.bind_some]
   cases unS a.2 p.1 with
   |none=>rfl
   |some b=>
    simp only [Option.bind_some]
    cases unS b.2 p.1 with
    |none=>rfl
    |some c=>rfl
theorem zeR {s:Bytes} {n:Nat} {p:Bytes×Bytes} (h:unS s n=some p):p.1.length=n∧zcz p.1∧p.2.length≤s.length:=by
 have hn:n≤4096:=by
  by_cases hn:n≤4096
  ·exact hn
  ·unfold unS at h;rw [if_pos (by omega)] at h;cases h
 cases s with
 |nil=>unfold unS at h;rw [if_neg (by omega)] at h;cases h
 |cons k u=>
  rw [zeP hn] at h
  split at h
  ·split at h
   ·rw [zdC] at h
    split at h
    ·rename_i h1 h2
     cases h
     refine ⟨by rw [List.length_take];omega,h2,by simp;omega⟩
    ·cases h
   ·cases h
  ·split at h
   ·cases u with
    |nil=>cases h
    |cons x w=>
     simp only at h
     split at h
     ·rename_i h1
      cases h
      exact ⟨by simp,fun y hy=>by rw [(List.mem_replicate.1 hy).2];exact h1,by simp;omega⟩
     ·cases h
   ·split at h
    ·cases hs:shD u n with
     |none=>rw [hs] at h;cases h
     |some a=>
      rw [hs] at h
      simp only [Option.bind_some] at h
      rw [zdC] at h
      split at h
      ·rename_i h2
       cases h
       unfold shD at hs
       cases e1:zas u false 4096 with
       |none=>rw [e1] at hs;cases hs
       |some h1=>
        rw [e1] at hs
        simp only [Option.bind_some] at hs
        cases e2:zas h1.2 false 4096 with
        |none=>rw [e2] at hs;cases hs
        |some b2=>
         rw [e2] at hs
         simp only [Option.bind_some] at hs
         cases e3:hdT h1.1 with
         |none=>rw [e3] at hs;cases hs
         |some q=>
          rw [e3] at hs
          simp only [Option.bind_some] at hs
          cases e4:zcu q.2 q.1 b2.1 n with
          |none=>rw [e4] at hs;cases hs
          |some l=>
           rw [e4] at hs
           cases hs
           have l1:=zby e1
           have l2:=zby e2
           exact ⟨by simpa using zgs e4,h2,by simp;omega⟩
      ·cases h
    ·cases h
theorem By.other {H:Heap} {b p:Nat} {sv:Value} {s:Bytes} {x:Blk} {cs:List Value} {rw:Bool} (h:By H b sv s) (hp:H.get p= .cells cs 3 rw):By (H.put p x) b sv s:=by
 obtain ⟨a,c,h1,h2⟩:=h
 refine ⟨a,c,h1,fun hl=>?_⟩
 obtain ⟨bb,q1,q2,q3⟩:=h2 hl
 refine ⟨bb,q1,q2,?_⟩
 rw [zaa,q3]
 intro e
 rw [e,hp] at q3
 injection q3 with _ e2 _
 exact absurd e2 (by decide)
def zz (k:Nat):List Value:=List.replicate k (.slice none 0 0)
@[simp] theorem zsL (k:Nat):(zz k).length=k:=by simp [zz]
structure UI (H0:Heap) (b n p7:Nat) (s:Bytes) (U:Option (List Bytes×Bytes)) (d:Nat) (e:Fe) (H:Heap) (ws:List Value) (xs:List Bytes) (u:Bytes):Prop where
 hl:xs.length≤3
 hw:ws.length=xs.length
 hd:d=3 - xs.length
 hU:U=(uns n (3 - xs.length) u).map fun p=>(xs++p.1,p.2)
 hb:∀(j:Nat) (w:Value) (x:Bytes),ws[j]? =some w→xs[j]? =some x→Bw (p7+1) H w x∧x.length=n∧zcz x
 hr:Rd H b u false
 hu:u.length≤s.length
 e0:e 0= .pointer (some ⟨b,0,none⟩)
 e6:e 6= .int .i64 n
 e7:e 7= .pointer (some ⟨p7,0,none⟩)
 e31:e 31= .int .i64 xs.length
 g7:H.get p7= .cells (ws++zz (3 - xs.length)) 95 true
 hk:Kq b H0 H
 np:H0.next≤p7
 nb:b< H0.next
def sqs (l:List Sqt):List Value:=l.flatMap fun x=> [.int .i64 x.l,.int .i64 x.m,.int .i64 x.o]
theorem zeS (l:List Sqt):(sqs l).length=l.length*3:=by
 induction l with
 |nil=>rfl
 |cons x l ih=>simp [sqs] at ih⊢;omega
def SqO (b:Nat) (H:Heap) (v:Value) (H':Heap):Option (List Sqt×Bytes)→Prop
 |none=>∃x,v= .tuple #[x,.bool false]
 |some p=>∃w,v= .tuple #[w,.bool true]∧Acc 155 3 H.next H'.next H' w p.1.length (sqs p.1)∧Rd H' b p.2 false
theorem Bw.lds {N:Nat} {H:Heap} {w:Value} {l:Bytes} (h:Bw N H w l) (hp:0< l.length):∃bb o c,w= .slice (some ⟨bb,o,none⟩) l.length c∧N≤bb∧bb< H.next∧∀X:Heap,X.get bb=H.get bb→∀(i:Nat) (x:UInt8),l[i]? =some x→kLd X (.pointer (some ⟨bb,o+i,none⟩))=some (bv x):=by
 obtain ⟨a,c,h1,h3⟩:=h
 obtain ⟨bb,o,rfl,g1,g2,g3⟩:=h3 hp
 refine ⟨bb,o,c,h1,g1,g2,fun X hX i x hx=>?_⟩
 have hi:i< l.length:=(List.getElem?_eq_some_iff.1 hx).1
 rw [←ziH hX] at g3
 rw [zgi g3 hi]
 simp [bvs,hx]
theorem z3_len:∀{a b c:Bytes} {n:Nat},a.length=n→b.length=n→c.length=n→(z3 a b c).length=n
 | [],[],[],n,h,_,_=>h
 |x::a,y::b,z::c,n,h1,h2,h3=>by
  simp only [List.length_cons] at h1 h2 h3
  simp only [z3,List.length_cons]
  have:=z3_len (a:=a) (b:=b) (c:=c) (n:=n - 1) (by omega) (by omega) (by omega)
  omega
 | [],_::_,_,_,h1,h2,_=>by simp at h1 h2;omega
 | [],[],_::_,_,h1,_,h2=>by simp at h1 h2;omega
 |_::_,[],_,_,h1,h2,_=>by simp at h1 h2;omega
 |_::_,_::_,[],_,h1,_,h2=>by simp at h1 h2;omega
theorem z3_get:∀{a b c:Bytes} {i:Nat} {x y z:UInt8},a[i]? =some x→b[i]? =some y→c[i]? =some z→(z3 a b c)[i]? =some (x.toNat,y.toNat,z.toNat)
 |a0::a,b0::b,c0::c,0,x,y,z,h1,h2,h3=>by simp at h1 h2 h3;subst h1 h2 h3;rfl
 |a0::a,b0::b,c0::c,i+1,x,y,z,h1,h2,h3=>by
  simp only [List.getElem?_cons_succ] at h1 h2 h3
  simp only [z3,List.getElem?_cons_succ]
  exact z3_get h1 h2 h3
 | [],_,_,_,_,_,_,h1,_,_=>by simp at h1
 |_::_,[],_,_,_,_,_,_,h2,_=>by simp at h2
 |_::_,_::_,[],_,_,_,_,_,_,h3=>by simp at h3
theorem zkw (a:Option Addr) (n c:Nat) (H:Heap) (P:Prop):ck (some (Value.slice a n c,H)) (Value.slice a n c) P=P:=by
 show (veq _ _=true∧P)=P
 have:veq (Value.slice a n c) (Value.slice a n c)=true:=by simp [veq,veq1]
 rw [this];simp
theorem zgt (k:IntKind) (n:Int) (H:Heap) (P:Prop):ck (some (Value.int k n,H)) (Value.int k n) P=P:=by
 show (veq _ _=true∧P)=P
 have:veq (Value.int k n) (Value.int k n)=true:=by simp [veq,veq1]
 rw [this];simp
def rcS (r:Rct):Prop:=(1≤r.a∧r.a≤65533)∧(1≤r.b∧r.b≤65533)∧(1≤r.c∧r.c≤65533)
theorem ziI {r:Rct} {n o:Int} (h:rcS r) (ho:rcO r n=some o):rcS (rcB r o):=by
 have:1≤o∧o≤65533:=by
  unfold rcO at ho
  split at ho
  ·rename_i hc;cases ho;exact ⟨hc.1,hc.2.1⟩
  ·cases ho
 unfold rcS at*
 unfold rcB
 split
 ·exact ⟨this,h.2.1,h.2.2⟩
 ·split
  ·exact ⟨this,h.1,h.2.2⟩
  ·exact ⟨this,h.1,h.2.1⟩
theorem zoO {s:Bytes} {c:Nat×Nat×Nat} {r:Rct} {a:Nat} {x:Sqt×Rct×Nat} (h:rcS r) (hx:stD s c r a=some x):rcS x.2.1:=by
 unfold stD at hx
 simp only [Option.bind_eq_some_iff,Option.map_eq_some_iff] at hx
 obtain ⟨x1,_,x2,_,x3,_,o,ho,rfl⟩:=hx
 exact ziI h ho
structure SI (H5:Heap) (mb p3 n:Nat) (sv:Value) (t:Bytes) (Z:List (Nat×Nat×Nat)) (w7:Value) (d:Nat) (e:Fe) (H:Heap) (i:Nat) (r:Rct) (a:Nat) (l:List Sqt):Prop where
 hi:i≤n
 hd:d=n - i
 hl:l.length=i
 hT:ssD t Z rc0 0=(ssD t (Z.drop i) r a).map fun y=>(l++y.1,y.2)
 ha:a≤8*t.length
 hrc:rcS r
 acc:Acc 155 3 H5.next H.next H (e 12) i (sqs l)
 gm:H.get mb=BrB sv a
 by_:By H mb sv t
 g3:H.get p3= .cells (rcl r) 3 true
 nx:H5.next≤H.next
 old:∀k,k< H5.next→k≠mb→k≠p3→H.get k=H5.get k
 e7:e 7=w7
 e11:e 11= .pointer (some ⟨mb,0,none⟩)
 e13:e 13= .pointer (some ⟨p3,0,none⟩)
 e53:e 53= .int .i64 n
 e54:e 54= .int .i64 i
section
variable {H:Heap} {b:Nat} {s:Bytes}
theorem zln (h:Rd H b s false) (hs:s.length≤100000) (lim:Nat) (hm:lim≤1099511627776):Wf S 124 [.pointer (some ⟨b,0,none⟩),.int .i64 lim] H fun v H'=>Kq b H H'∧SqO b H v H' (zgA s lim):=by
 refine w124 rfl rfl _ _ ?_
 have hblt:=h.lt
 have hmn:min (lim:Int) 1000=((min lim 1000:Nat):Int):=by omega
 simp [s124,hmn]
 refine (zgg h (min lim 1000) (by omega)).mono ?_
 rintro v H1 ⟨rfl,rfl⟩
 rw [zeQ]
 cases hi:zao s false (min lim 1000) with
 |none=>
  have hr1:Rd (H.put b (RdB [] true)) b [] true:=zaZ hblt
  simp [gvN,grL]
  refine (zbd hr1).mono ?_
  rintro v H2 ⟨rfl,rfl⟩
  simp
  refine (zbd hr1).mono ?_
  rintro v H2 ⟨rfl,rfl⟩
  simp [tup,SqO]
  exact Kq.put
 |some p=>
  obtain ⟨n,u⟩:=p
  obtain ⟨hn1,hul⟩:=zeb hi
  simp only at hn1 hul
  simp only [Option.bind_some]
  have hr1:Rd (H.put b (RdB u false)) b u false:=zaZ hblt
  have hkq1:Kq b H (H.put b (RdB u false)):=Kq.put
  simp [gvN,grL]
  refine (zbd hr1).mono ?_
  rintro v H2 ⟨rfl,rfl⟩
  by_cases hn0:n=0
  ·subst hn0
   simp
   refine (zbd hr1).mono ?_
   rintro v H2 ⟨rfl,rfl⟩
   simp [tup,SqO]
   exact ⟨hkq1,Acc.nil,hr1⟩
  have hn0':¬(n:Int)=0:=by omega
  rw [if_neg hn0]
  obtain ⟨H1,hH1⟩:∃H1,H1=H.put b (RdB u false):=⟨_,rfl⟩
  rw [←hH1] at hr1 hkq1⊢
  have hnx1:H1.next=H.next:=by rw [hH1];exact next_put
  simp [hn0,hn0']
  obtain ⟨U,hU⟩:∃U,U=uns n 3 u:=⟨_,rfl⟩
  rw [←hU]
  have g7:(H1.push (.cells [.slice none 0 0,.slice none 0 0,.slice none 0 0] 95 true)).get H1.next= .cells [.slice none 0 0,.slice none 0 0,.slice none 0 0] 95 true:=zaf
  have hr2:Rd (H1.push (.cells [.slice none 0 0,.slice none 0 0,.slice none 0 0] 95 true)) b u false:=by unfold Rd;rw [zae (by omega)];exact hr1
  have hkq2:=hkq1.trans (Kq.of (b:=b) (Kp.push (b:= .cells [.slice none 0 0,.slice none 0 0,.slice none 0 0] 95 true) (Nat.le_refl H1.next)))
  obtain ⟨H2,hH2⟩:∃H2,H2=H1.push (.cells [.slice none 0 0,.slice none 0 0,.slice none 0 0] 95 true):=⟨_,rfl⟩
  rw [←hH2] at g7 hr2 hkq2⊢
  refine l124_1 S (fun d e HH=>∃ws xs u',UI H b n H1.next u U d e HH ws xs u') 3 ⟨[],[],u,⟨by simp,rfl,by simp,?_,fun j w x hj=>by simp at hj,hr2,Nat.le_refl _,by simp,by simp,by simp,by simp,g7,hkq2,by omega,hblt⟩⟩ ?_
  ·rw [hU];simp
  rintro d e H' ⟨ws,xs,u',I⟩
  have i0:=I.e0
  have i6:=I.e6
  have i7:=I.e7
  have i31:=I.e31
  have hl:=I.hl
  have hwl:=I.hw
  have hu':=I.hu
  have hdd:=I.hd
  by_cases h3:xs.length< 3
  ·have e32:3 - xs.length=(2 - xs.length)+1:=by clear I i0 i6 i7 i31 hwl;omega
   have h3':(xs.length:Int)< 3:=by omega
   have w1:IntKind.i64.wrap ((xs.length:Int)+1)=(xs.length:Int)+1:=wi (by omega) (by omega)
   simp [s124_1,i0,i6,i31,h3,h3']
   refine (zjv I.hr (by omega) n (by omega) (by omega)).mono ?_
   rintro v H3 ⟨hk3,hv⟩
   have hUn:=I.hU
   rw [show 3 - xs.length=(3 - (xs.length+1))+1 by omega] at hUn
   simp only [uns] at hUn
   cases hun:unS u' n with
   |none=>
    rw [hun] at hv hUn
    obtain ⟨x,rfl⟩:=hv
    have hz:U=none:=by rw [hUn];rfl
    rw [hz]
    simp [tup,SqO]
    exact I.hk.trans hk3
   |some a=>
    rw [hun] at hv hUn
    obtain ⟨w,rfl,hbw,hr3⟩:=hv
    obtain ⟨q1,q2,q3⟩:=zeR hun
    simp only [Option.bind_some] at hUn
    have nx:=I.hk.1
    have nx3:=hk3.1
    have np:=I.np
    have nb:=I.nb
    have p7lt:H1.next< H'.next:=zai I.g7
    have g3:H3.get H1.next= .cells (ws++zz (3 - xs.length)) 95 true:=by rw [hk3.2 _ p7lt (by omega)];exact I.g7
    obtain ⟨wa,wc,rfl,_⟩:=id hbw
    obtain ⟨w,hw⟩:∃w:Value,w= .slice wa a.1.length wc:=⟨_,rfl⟩
    have hone:zaB w=true:=by rw [hw];rfl
    have hset:(ws++zz (3 - xs.length)).set xs.length w=(ws++ [w])++zz (2 - xs.length):=by
     unfold zz
     rw [e32,List.replicate_succ,←hwl,List.set_append_right _ _ (Nat.le_refl _)]
     simp
    have hlen:xs.length< ws.length+(3 - xs.length):=by rw [hwl,Nat.add_sub_cancel' hl];exact h3
    rw [←hw] at hbw⊢
    simp [i0,i6,i7,i31,zac,h3,h3',kSt,g3,hlen,hone,hset,w1]
    have gp:∀k,k≠H1.next→(H3.put H1.next (.cells ((ws++ [w])++zz (2 - xs.length)) 95 true)).get k=H3.get k:=fun k hk=>zaa hk
    have gs:(H3.put H1.next (.cells ((ws++ [w])++zz (2 - xs.length)) 95 true)).get H1.next= .cells ((ws++ [w])++zz (2 - xs.length)) 95 true:=zad (by omega)
    have hnp:(H3.put H1.next (.cells ((ws++ [w])++zz (2 - xs.length)) 95 true)).next=H3.next:=next_put
    rw [List.append_assoc,List.singleton_append] at gp gs hnp
    obtain ⟨H4,hH4⟩:∃H4,H4=H3.put H1.next (.cells (ws++w::zz (2 - xs.length)) 95 true):=⟨_,rfl⟩
    rw [←hH4] at gp gs hnp⊢
    refine ⟨3 - (xs.length+1),by omega,ws++ [w],xs++ [a.1],a.2,⟨by simp;omega,by simp;omega,by simp,?_,?_,?_,by omega,by simp [i0],by simp [i6],by simp [i7],by simp,?_,?_,np,nb⟩⟩
    ·rw [hUn,List.length_append]
     simp only [List.length_cons,List.length_nil,Option.map_map]
     congr 1
     funext r
     simp
    ·intro j w' x' h1 h2
     by_cases hj:j< xs.length
     ·rw [List.getElem?_append_left (by omega)] at h1
      rw [List.getElem?_append_left hj] at h2
      obtain ⟨b1,b2⟩:=I.hb j w' x' h1 h2
      exact ⟨b1.kp (fun k h1 h2=>by rw [gp k (by omega),hk3.2 k h2 (by omega)]) (by omega),b2⟩
     ·have hj2:j=xs.length:=by have:=(List.getElem?_eq_some_iff.1 h2).1;simp at this;omega
      subst hj2
      rw [List.getElem?_append_right (by omega),hwl,Nat.sub_self] at h1
      rw [List.getElem?_append_right (by omega),Nat.sub_self] at h2
      simp at h1 h2
      subst h1 h2
      exact ⟨(hbw.mono (N':=H1.next+1) (by omega)).kp (fun k h1 h2=>gp k (by omega)) (by omega),q1,q2⟩
    ·unfold Rd;rw [gp b (by omega)];exact hr3
    ·rw [gs,show 3 - (xs++ [a.1]).length=2 - xs.length by simp];simp
    ·exact ⟨by omega,fun k hk hkb=>by rw [gp k (by omega)];exact (I.hk.trans hk3).2 k hk hkb⟩
  ·have h5:xs.length=3:=by omega
   obtain ⟨x0,x1,x2,rfl⟩:∃x0 x1 x2,xs= [x0,x1,x2]:=by
    match xs,h5 with
    | [x,y,z],_=>exact ⟨x,y,z,rfl⟩
   obtain ⟨w0,w1,w2,rfl⟩:∃w0 w1 w2,ws= [w0,w1,w2]:=by
    match ws,hwl with
    | [x,y,z],_=>exact ⟨x,y,z,rfl⟩
   have hUs:U=some ([x0,x1,x2],u'):=by have:=I.hU;simpa [uns] using this
   have g7':H'.get H1.next= .cells [w0,w1,w2] 95 true:=by have:=I.g7;simpa [zz] using this
   obtain ⟨bw0,n0,k0⟩:=I.hb 0 w0 x0 rfl rfl
   obtain ⟨bw1,n1,k1⟩:=I.hb 1 w1 x1 rfl rfl
   obtain ⟨bw2,n2,k2⟩:=I.hb 2 w2 x2 rfl rfl
   have nx:=I.hk.1
   have np:=I.np
   have p7lt:H1.next< H'.next:=zai g7'
   rw [hUs]
   simp only [Option.bind_some,z3l]
   have hrB:=I.hr
   have hkB:=I.hk
   simp [s124_1,i0,i31]
   refine (zgh hrB 4096 (by omega)).mono ?_
   rintro v H3 ⟨rfl,rfl⟩
   unfold sqT
   cases ht:zas u' false 4096 with
   |none=>
    simp only [txS,txL,Option.isNone_none,Option.bind_none]
    have hr3:Rd (H'.put b (RdB [] true)) b [] true:=zaZ (by omega)
    have hk3:Kq b H (H'.put b (RdB [] true)):=hkB.trans Kq.put
    obtain ⟨H3,hH3⟩:∃H3,H3=H'.put b (RdB [] true):=⟨_,rfl⟩
    rw [←hH3] at hr3 hk3⊢
    rw [zb1 (by unfold zag;simp)]
    have hr4:Rd (H3.push (.cells (bvs []) 5 true)) b [] true:=by unfold Rd;rw [zae hr3.lt];exact hr3
    have hk4:=hk3.trans (Kq.of (b:=b) (Kp.push (b:= .cells (bvs []) 5 true) (Nat.le_refl H3.next)))
    have hrow:=zbD (zaf (H:=H3) (b:= .cells (bvs []) 5 true))
    refine (zco (c:=zat) hrow (by simp)).mono ?_
    rintro v H5 ⟨sv,mb,rfl,hb1,hb2,hgb,hby,hk5⟩
    have hr5:Rd H5 b [] true:=by unfold Rd;rw [hk5.2 b hr4.lt];exact hr4
    simp
    refine (zbd hr5).mono ?_
    rintro v H6 ⟨rfl,rfl⟩
    simp [tup,SqO]
    exact hk4.trans (Kq.of hk5)
   |some q=>
    obtain ⟨t,z⟩:=q
    simp only [txS,txL,Option.isNone_some,Option.bind_some]
    have l1:=zby ht
    simp only at l1
    have hr3:Rd (H'.put b (RdB z false)) b z false:=zaZ (by omega)
    have hk3:Kq b H' (H'.put b (RdB z false)):=Kq.put
    have g73:(H'.put b (RdB z false)).get H1.next= .cells [w0,w1,w2] 95 true:=by rw [zaa (by omega)];exact g7'
    obtain ⟨H3,hH3⟩:∃H3,H3=H'.put b (RdB z false):=⟨_,rfl⟩
    rw [←hH3] at hr3 hk3 g73⊢
    rw [zb1 (by unfold zag;omega)]
    have hk4:=hk3.trans (Kq.of (b:=b) (Kp.push (b:= .cells (bvs t) 5 true) (Nat.le_refl H3.next)))
    have hrow:=zbD (zaf (H:=H3) (b:= .cells (bvs t) 5 true))
    have hr4:Rd (H3.push (.cells (bvs t) 5 true)) b z false:=by unfold Rd;rw [zae hr3.lt];exact hr3
    refine (zco (c:=zat) hrow (by omega)).mono ?_
    rintro v H5 ⟨sv,mb,rfl,hb1,hb2,hgb,hby,hk5⟩
    have hr5:Rd H5 b z false:=by unfold Rd;rw [hk5.2 b hr4.lt];exact hr4
    have hkq5:Kq b H' H5:=hk4.trans (Kq.of hk5)
    try simp
    refine (zbd hr5).mono ?_
    rintro v H6 ⟨h6,rfl⟩
    rw [h6]
    simp
    refine zoF.mono ?_
    rintro v H7 ⟨hk7,rfl⟩
    have hrv:rcv rc0= .agg (rcl rc0).toArray:=rfl
    have hrl:(rcl rc0).length=3:=rfl
    have gl:(H7.push (.cells [.int .i64 0,.int .i64 0,.int .i64 0] 3 true)).get H7.next= .cells [.int .i64 0,.int .i64 0,.int .i64 0] 3 true:=zaf
    rw [hrv]
    simp [zaT,gl,wr,hrl]
    have hby7:By H7 mb sv t:=hby.kq (Kq.of hk7)
    have hby8:By (H7.push (.cells (rcl rc0) 3 true)) mb sv t:=hby7.kq (Kq.of (Kp.push (Nat.le_refl _)))
    have gm8:(H7.push (.cells (rcl rc0) 3 true)).get mb=BrB sv 0:=by rw [zae (by have:=hk7.1;omega),hk7.2 _ hb2];exact hgb
    have g38:(H7.push (.cells (rcl rc0) 3 true)).get H7.next= .cells (rcl rc0) 3 true:=zaf
    have nx8:(H7.push (.cells (rcl rc0) 3 true)).next=H7.next+1:=by simp
    have old8:∀k,k< H5.next→(H7.push (.cells (rcl rc0) 3 true)).get k=H5.get k:=fun k hk=>by rw [zae (by have:=hk7.1;omega),hk7.2 _ hk]
    obtain ⟨H8,hH8⟩:∃H8,H8=H7.push (.cells (rcl rc0) 3 true):=⟨_,rfl⟩
    rw [←hH8] at hby8 gm8 g38 nx8 old8⊢
    have n7:=hk7.1
    have nq5:=hkq5.1
    have hb1':H3.next< mb:=by simp at hb1;omega
    have n3:=hk3.1
    have g78:H8.get H1.next= .cells [w0,w1,w2] 95 true:=by rw [old8 _ (by omega),hkq5.2 _ p7lt (by omega)];exact g7'
    have kp8:∀k,H1.next+1≤k→k< H'.next→H8.get k=H'.get k:=fun k h1 h2=>by rw [old8 _ (by omega),hkq5.2 _ h2 (by omega)]
    have r8:Rd H8 b z false:=by unfold Rd;rw [old8 _ (by omega)];exact hr5
    have kq8:Kq b H H8:=⟨by omega,fun k hk hkb=>by rw [old8 _ (by omega),hkq5.2 _ (by omega) hkb];exact hkB.2 k hk hkb⟩
    obtain ⟨c0,o0,q0,rfl,a0,b0,ld0⟩:=bw0.lds (by omega)
    obtain ⟨c1,o1,q1,rfl,a1,b1,ld1⟩:=bw1.lds (by omega)
    obtain ⟨c2,o2,q2,rfl,a2,b2,ld2⟩:=bw2.lds (by omega)
    rw [n0,n1,n2] at g78
    obtain ⟨Z,hZ⟩:∃Z,Z=z3 x0 x1 x2:=⟨_,rfl⟩
    have hZl:Z.length=n:=by rw [hZ];exact z3_len n0 n1 n2
    rw [←hZ]
    refine l124_0 S (fun d e HH=>∃i r a l,SI H8 mb H7.next n sv t Z (.pointer (some ⟨H1.next,0,none⟩)) d e HH i r a l) n ⟨0,rc0,0,[],⟨by omega,by omega,rfl,by simp,by omega,⟨⟨by decide,by decide⟩,⟨by decide,by decide⟩,⟨by decide,by decide⟩⟩,?_,gm8,hby8,g38,Nat.le_refl _,fun k _ _ _=>rfl,by simp [i7],by simp,by simp,by simp [i6],by simp⟩⟩ ?_
    ·simp only [sqs,List.flatMap_nil];simp;exact Acc.nil
    rintro d e H9 ⟨i,r,a,l,J⟩
    have j7:=J.e7
    have j11:=J.e11
    have j13:=J.e13
    have j53:=J.e53
    have j54:=J.e54
    have nx9:=J.nx
    have hi:=J.hi
    have g79:H9.get H1.next= .cells [.slice (some ⟨c0,o0,none⟩) n q0,.slice (some ⟨c1,o1,none⟩) n q1,.slice (some ⟨c2,o2,none⟩) n q2] 95 true:=by rw [J.old _ (by omega) (by omega) (by omega)];exact g78
    by_cases h3:i< n
    ·have h3':(i:Int)< n:=by omega
     obtain ⟨y0,hy0⟩:∃y,x0[i]? =some y:=⟨_,List.getElem?_eq_getElem (by omega)⟩
     obtain ⟨y1,hy1⟩:∃y,x1[i]? =some y:=⟨_,List.getElem?_eq_getElem (by omega)⟩
     obtain ⟨y2,hy2⟩:∃y,x2[i]? =some y:=⟨_,List.getElem?_eq_getElem (by omega)⟩
     have o9:∀X:Heap,(∀k,k< H9.next→k≠mb→X.get k=H9.get k)→X.get H1.next=H9.get H1.next∧X.get H7.next= .cells (rcl r) 3 true∧kLd X (.pointer (some ⟨c0,o0+i,none⟩))=some (.int .u8 (y0.toNat:Nat))∧kLd X (.pointer (some ⟨c1,o1+i,none⟩))=some (.int .u8 (y1.toNat:Nat))∧kLd X (.pointer (some ⟨c2,o2+i,none⟩))=some (.int .u8 (y2.toNat:Nat)):=by
      intro X hX
      refine ⟨hX _ (by omega) (by omega),?_,ld0 X ?_ i y0 hy0,ld1 X ?_ i y1 hy1,ld2 X ?_ i y2 hy2⟩
      ·rw [hX _ (by omega) (by omega)];exact J.g3
      ·rw [hX _ (by omega) (by omega),J.old _ (by omega) (by omega) (by omega)];exact kp8 _ a0 b0
      ·rw [hX _ (by omega) (by omega),J.old _ (by omega) (by omega) (by omega)];exact kp8 _ a1 b1
      ·rw [hX _ (by omega) (by omega),J.old _ (by omega) (by omega) (by omega)];exact kp8 _ a2 b2
     have hdrop:Z.drop i=(y0.toNat,y1.toNat,y2.toNat)::Z.drop (i+1):=by
      have hz3:=z3_get hy0 hy1 hy2
      rw [←hZ] at hz3
      obtain ⟨g1,g2⟩:=List.getElem?_eq_some_iff.1 hz3
      rw [List.drop_eq_getElem_cons g1,g2]
     obtain ⟨_,p3,p0,p1,p2⟩:=o9 H9 (fun k _ _=>rfl)
     have hrl2:(rcl r).length=3:=rfl
     have hrt:(rcl r).take 3=rcl r:=rfl
     simp [s124_0,j7,j11,j13,j53,j54,h3,h3',zac,g79,p0,p1,p2,zaL,p3,rd,hrl2,hrt,zaF,zaR,zay,cellsL,wr,Env.ev]
     have k0':=k0 y0 (List.mem_of_getElem? hy0)
     have k1':=k1 y1 (List.mem_of_getElem? hy1)
     have k2':=k2 y2 (List.mem_of_getElem? hy2)
     have hc:=J.hrc
     refine (zqK J.gm J.by_ (by omega) J.ha y0.toNat y1.toNat y2.toNat (by omega) (by omega) (by omega) r (by unfold rcS at hc;omega)).mono ?_
     rintro v HS ⟨hkS,hv⟩
     obtain ⟨HA,hHA⟩:∃HA,HA=HS.push (.cells [.int .i64 0,.int .i64 0,.int .i64 0] 155 true):=⟨_,rfl⟩
     obtain ⟨HB,hHB⟩:∃HB,HB=HA.push (.cells [.int .i64 0,.int .i64 0,.int .i64 0] 3 true):=⟨_,rfl⟩
     have nS:=hkS.1
     have nA:HA.next=HS.next+1:=by rw [hHA];simp
     have nB:HB.next=HS.next+2:=by rw [hHB];simp [nA]
     have oA:∀k,k< HS.next→HA.get k=HS.get k:=fun k hk=>by rw [hHA,zae hk]
     have oB:∀k,k< HS.next→HB.get k=HS.get k:=fun k hk=>by rw [hHB,zae (by omega),oA k hk]
     have gA:HB.get HS.next= .cells [.int .i64 0,.int .i64 0,.int .i64 0] 155 true:=by rw [hHB,zae (by omega),hHA];exact zaf
     have gB:HB.get HA.next= .cells [.int .i64 0,.int .i64 0,.int .i64 0] 3 true:=by rw [hHB];exact zaf
     obtain ⟨A7,A3,A0,A1,A2⟩:=o9 HA (fun k h1 h2=>by rw [oA k (by omega),hkS.2 k h1 h2])
     obtain ⟨B7,B3,B0,B1,B2⟩:=o9 HB (fun k h1 h2=>by rw [oB k (by omega),hkS.2 k h1 h2])
     rw [g79] at A7 B7
     cases hst:stD t (y0.toNat,y1.toNat,y2.toNat) r a with
     |none=>
      rw [hst] at hv
      obtain ⟨xx,yy,hx3,hy3,rfl⟩:=hv
      simp [-zbq,←hHA,←hHB]
      simp [kop,Env.ev,zkw,zgt,zfo,A7,A3,A0,A1,A2,B7,B3,B0,B1,B2,zaL,hrl2,hrt]
      simp [rd,hrl2,hrt,zfo,zaT,gA,wr,hx3,hy3]
      obtain ⟨HC,hHC⟩:∃HC,HC=HB.put HS.next (.cells xx 155 true):=⟨_,rfl⟩
      have gC:HC.get (HS.next+1)= .cells [.int .i64 0,.int .i64 0,.int .i64 0] 3 true:=by rw [hHC,zaa (by omega),←nA];exact gB
      have hxd:xx++List.drop 3 [Value.int .i64 0,.int .i64 0,.int .i64 0]=xx:=by simp
      rw [←hHC]
      simp [gC]
      have hz:ssD t Z rc0 0=none:=by rw [J.hT,hdrop];simp only [ssD,hst];rfl
      rw [hz]
      simp [tup,SqO]
      refine ⟨by rw [next_put,hHC,next_put];have:=kq8.1;omega,fun k hk hkb=>?_⟩
      have:=kq8.1
      rw [zaa (by omega),hHC,zaa (by omega),oB k (by omega),hkS.2 k (by omega) (by omega),J.old k (by omega) (by omega) (by omega)]
      exact kq8.2 k hk hkb
     |some x=>
      rw [hst] at hv
      obtain ⟨rfl,gm,hxa⟩:=hv
      obtain ⟨q,hq⟩:∃q:List Value,q= [.int .i64 x.1.l,.int .i64 x.1.m,.int .i64 x.1.o]:=⟨_,rfl⟩
      have hsq:sqV x.1= .agg q.toArray:=by rw [hq];rfl
      have hrq:rcv x.2.1= .agg (rcl x.2.1).toArray:=rfl
      have hrl3:(rcl x.2.1).length=3:=rfl
      have hrt3:(rcl x.2.1).take 3=rcl x.2.1:=rfl
      have hql:q.length=3:=by rw [hq];rfl
      have hqt:q.take 3=q:=List.take_of_length_le (by omega)
      rw [hsq,hrq]
      simp [-zbq,←hHA,←hHB]
      simp [kop,Env.ev,zkw,zgt,zfo,A7,A3,A0,A1,A2,B7,B3,B0,B1,B2,zaL,hrl2,hrt]
      simp [rd,hrl2,hrt,zfo,zaT,gA,wr,hql,hrl3]
      obtain ⟨HC,hHC⟩:∃HC,HC=HB.put HS.next (.cells q 155 true):=⟨_,rfl⟩
      have gC:HC.get (HS.next+1)= .cells [.int .i64 0,.int .i64 0,.int .i64 0] 3 true:=by rw [hHC,zaa (by omega),←nA];exact gB
      rw [←hHC]
      simp [gC]
      obtain ⟨HD,hHD⟩:∃HD,HD=HC.put (HS.next+1) (.cells (rcl x.2.1) 3 true):=⟨_,rfl⟩
      rw [←hHD]
      have nC:HC.next=HB.next:=by rw [hHC];exact next_put
      have nD:HD.next=HS.next+2:=by rw [hHD,next_put];omega
      have gD:HD.get HS.next= .cells q 155 true:=by rw [hHD,zaa (by omega),hHC];exact zad (by omega)
      have gD1:HD.get (HS.next+1)= .cells (rcl x.2.1) 3 true:=by rw [hHD];exact zad (by omega)
      have oD:∀k,k< HS.next→HD.get k=HS.get k:=fun k hk=>by rw [hHD,zaa (by omega),hHC,zaa (by omega),oB k hk]
      have accD:Acc 155 3 H8.next H9.next HD (e 12) i (sqs l):=J.acc.kp (fun k h1 h2=>by rw [oD k (by omega),hkS.2 k h2 (by omega)])
      obtain ⟨v',HE,hap,accE,nE,oE⟩:=accD.app (bytes:=24) (new:=q) (by omega) (by omega) hql (by unfold zag;omega)
      have gp:(HD.push (.cells q 155 true)).get (HS.next+1)= .cells (rcl x.2.1) 3 true:=by rw [zae (by omega)];exact gD1
      have gE1:HE.get (HS.next+1)= .cells (rcl x.2.1) 3 true:=by rw [oE _ (by omega) (by omega)];exact gD1
      have oE9:∀k,k< H8.next→k≠mb→HE.get k=H9.get k:=fun k h1 h2=>by rw [oE k (by omega) (by omega),oD k (by omega),hkS.2 k (by omega) h2]
      have gE3:HE.get H7.next= .cells (rcl r) 3 true:=by rw [oE9 _ (by omega) (by omega)];exact J.g3
      have w1:IntKind.i64.wrap ((i:Int)+1)=(i:Int)+1:=wi (by omega) (by omega)
      simp [gD,gD1,hql,hqt,hrl3,hrt3]
      have hlt:HS.next+1< HD.next:=by omega
      simp [hlt,gD1,hrt3,hrl3,zfo,zaP,rd,hql,hqt,hap,gE1,gE3,j13,j54,w1,hrl2,show (rcl r).drop 3= [] from rfl]
      obtain ⟨HF,hHF⟩:∃HF,HF=HE.put H7.next (.cells (rcl x.2.1) 3 true):=⟨_,rfl⟩
      rw [←hHF]
      have nF:HF.next=HE.next:=by rw [hHF];exact next_put
      have oF:∀k,k≠H7.next→HF.get k=HE.get k:=fun k hk=>by rw [hHF,zaa hk]
      have hdd2:=J.hd
      refine ⟨n - (i+1),by omega,i+1,x.2.1,x.2.2,l++ [x.1],⟨by omega,rfl,by rw [List.length_append,J.hl];rfl,?_,hxa,zoO J.hrc hst,?_,?_,?_,?_,by omega,?_,by simp [j7],by simp [j11],by simp [j13],by simp [j53],by simp⟩⟩
      ·rw [J.hT,hdrop]
       simp only [ssD,hst,Option.bind_some,Option.map_map]
       congr 1
       funext y
       simp
      ·have e1:sqs (l++ [x.1])=sqs l++q:=by rw [hq];simp [sqs]
       rw [e1,nF]
       simpa using accE.kp (fun k h1 h2=>oF k (by omega))
      ·rw [oF _ (by omega),oE _ (by omega) (by omega),oD _ (by omega)];exact gm
      ·have b1:By HE mb sv t:=by
        have b2:=(J.by_.kq hkS)
        obtain ⟨aa,cc,h1,h2⟩:=b2
        obtain ⟨aa',cc',h1',h2'⟩:=hby8
        rw [h1] at h1'
        injection h1' with i1 i2 i3
        subst i1
        refine ⟨aa,cc,h1,fun hp=>?_⟩
        obtain ⟨bb,u1,u2,u3⟩:=h2 hp
        obtain ⟨bb',u1',u2',u3'⟩:=h2' hp
        rw [u1] at u1'
        injection u1' with u1'
        injection u1' with u1' _ _
        subst u1'
        refine ⟨bb,u1,u2,?_⟩
        have hlb:bb< H8.next:=zai u3'
        rw [oE _ (by omega) (by omega),oD _ (by omega)];exact u3
       rw [hHF]
       exact b1.other gE3
      ·rw [hHF];exact zad (by omega)
      ·intro k h1 h2 h3
       rw [oF _ h3,oE9 k h1 h2];exact J.old k h1 h2 h3
    ·have hin:i=n:=by omega
     subst hin
     have hT:=J.hT
     rw [List.drop_eq_nil_of_le (by omega)] at hT
     simp only [ssD,Option.map_some,List.append_nil] at hT
     rw [hT]
     simp [s124_0,j53,j54,j11]
     refine (zkk J.gm J.by_ (by omega) J.ha).mono ?_
     rintro v HG ⟨rfl,a',rfl⟩
     have kqG:Kq b H (H9.put mb (BrB sv a')):=by
      refine ⟨by rw [next_put];have:=kq8.1;omega,fun k hk hkb=>?_⟩
      have:=kq8.1
      rw [zaa (by omega),J.old k (by omega) (by omega) (by omega)]
      exact kq8.2 k hk hkb
     by_cases hen:ended t a
     ·rw [decide_eq_true hen]
      simp [hen,SqO,tup]
      refine ⟨kqG,?_,?_⟩
      ·rw [J.hl]
       have a1:Acc 155 3 H8.next H9.next (H9.put mb (BrB sv a')) (e 12) i (sqs l):=J.acc.kp (fun k h1 h2=>zaa (by omega))
       have n8:=kq8.1
       rcases a1 with h|⟨bq,cq,h1,h2,h3,h4,h5,h6⟩
       ·exact .inl h
       ·exact .inr ⟨bq,cq,by omega,by rw [next_put];omega,h3,h4,h5,h6⟩
      ·unfold Rd;rw [zaa (by omega),J.old _ (by omega) (by omega) (by omega)];exact r8
     ·rw [decide_eq_false hen]
      simp [hen,SqO,tup]
      exact kqG
end
theorem Acc.appM {t z N M n m bytes:Nat} {H:Heap} {v:Value} {cs new:List Value} (h:Acc t z N M H v n cs) (hM:M≤H.next) (hN:N≤H.next) (hz:new.length=m*z) (hn:(n+m)*bytes≤zag∧n+m≤zag):
  ∃v' H',zbk H t z bytes v m new=some (v',H')∧Acc t z N H'.next H' v' (n+m) (cs++new)∧H.next≤H'.next∧∀k,k< H.next→(∀b m c,v= .slice (some b) m c→b.block≠k)→H'.get k=H.get k:=by
 by_cases h0:m=0
 ·subst h0
  have hnew:new= []:=List.length_eq_zero_iff.1 (by omega)
  subst hnew
  refine ⟨v,H,?_,by simpa using h.mono hM,Nat.le_refl _,fun _ _ _=>rfl⟩
  rcases h with ⟨rfl,rfl,rfl⟩|⟨b,c,h1,h2,rfl,hc,h3,h4⟩
  ·simp [zbk]
  ·have h5:n*bytes≤zag∧n≤zag:=by simpa using hn
   rcases hc with rfl|rfl
   ·simp [zbk,h3,h5.1,h5.2]
   ·have hcap:¬c=zat:=by have:zag< zat:=by decide
                         omega
    simp [zbk,h3,h5.1,h5.2,hcap]
 ·obtain ⟨v',H',h1,h2,h3,h4⟩:=h.appN2 (by omega) hz hn
  refine ⟨v',H',h1,?_,by omega,h4⟩
  rcases h2 with h2|⟨b,c,q1,q2,q3,q4,q5,q6⟩
  ·exact .inl h2
  ·exact .inr ⟨b,c,by omega,q2,q3,q4,q5,q6⟩
def TxB (v:Value) (D lim:Nat):Blk:= .cells [v,.int .i64 D,.int .i64 lim] 225 true
def Tx (N p:Nat) (H:Heap) (buf:Bytes) (D lim:Nat):Prop:=N≤p∧∃v,H.get p=TxB v D lim∧Acc 5 1 N H.next H v buf.length (bvs buf)
theorem Acc.notp {N M n p:Nat} {H:Heap} {v w:Value} {cs:List Value} {D lim:Nat} (h:Acc 5 1 N M H v n cs) (hp:H.get p=TxB w D lim):∀b m c,v= .slice (some b) m c→b.block≠p:=by
 intro b m c hv
 rcases h with ⟨_,_,rfl⟩|⟨b',c',q1,q2,rfl,q4,q5,q6⟩
 ·cases hv
 ·injection hv with e1 _ _
  injection e1 with e1
  subst e1
  intro e
  simp only at e
  rw [e,hp] at q5
  injection q5 with _ e2 _
  exact absurd e2 (by decide)
theorem Acc.putp {N M n p:Nat} {H:Heap} {v w:Value} {cs:List Value} {D lim:Nat} {x:Blk} (h:Acc 5 1 N M H v n cs) (hp:H.get p=TxB w D lim):Acc 5 1 N M (H.put p x) v n cs:=by
 have hn:=h.notp hp
 rcases h with h|⟨b,c,q1,q2,rfl,q4,q5,q6⟩
 ·exact .inl h
 ·have:=hn _ _ _ rfl
  exact .inr ⟨b,c,q1,q2,rfl,q4,by rw [zaa this];exact q5,q6⟩
theorem Acc.nott {t t2 N M n z p:Nat} {H:Heap} {v:Value} {cs cs2:List Value} {rw:Bool} (h:Acc t z N M H v n cs) (hp:H.get p= .cells cs2 t2 rw) (ht:t2≠t):∀b m c,v= .slice (some b) m c→b.block≠p:=by
 intro b m c hv
 rcases h with ⟨_,_,rfl⟩|⟨b',c',q1,q2,rfl,q4,q5,q6⟩
 ·cases hv
 ·injection hv with e1 _ _
  injection e1 with e1
  subst e1
  intro e
  simp only at e
  rw [e,hp] at q5
  injection q5 with _ e2 _
  exact ht e2
def KS (H H':Heap):Prop:=∀k cs,H.get k= .cells cs 155 true→H'.get k= .cells cs 155 true
section
variable {H:Heap} {N p:Nat} {buf:Bytes} {D lim:Nat}
theorem zjw (h:Tx N p H buf D lim) (hD:D≤1000000) (hl:lim≤1000000) (hb:buf.length≤3000000) (n:Int):Wf S 167 [.pointer (some ⟨p,0,none⟩),.int .i64 n] H fun v H'=>H'=H∧v= .bool (decide (n≤(lim:Int)+D - buf.length)):=by
 refine w167 rfl rfl _ _ ?_
 obtain ⟨_,v,hg,hA⟩:=h
 obtain ⟨a,c,rfl,_⟩:=hA.len
 have hg':H.get p= .cells [.slice a buf.length c,.int .i64 D,.int .i64 lim] 225 true:=hg
 have w1:IntKind.i64.wrap ((buf.length:Int) - D)=(buf.length:Int) - D:=wi (by omega) (by omega)
 have w2:IntKind.i64.wrap ((lim:Int) - ((buf.length:Int) - D))=(lim:Int) - ((buf.length:Int) - D):=wi (by omega) (by omega)
 have e:(lim:Int) - ((buf.length:Int) - D)=(lim:Int)+D - buf.length:=by omega
 rw [e] at w2
 simp [s167,zac,hg',w1,w2,e]
theorem znq (h:Tx N p H buf D lim) (o n:Nat) (ho:1≤o) (hob:o≤buf.length) (hb:buf.length+n≤3000000):Wf S 208 [.pointer (some ⟨p,0,none⟩),.int .i64 o,.int .i64 n] H fun v H'=>Kp N H H'∧KS H H'∧Tx N p H' (cpN buf o n) D lim:=by
 refine w208 rfl rfl _ _ _ ?_
 simp [s208]
 refine l208_0 S (fun d e H'=>∃i:Nat,i≤n∧d=n - i∧Kp N H H'∧KS H H'∧Tx N p H' (cpN buf o i) D lim∧e 0= .pointer (some ⟨p,0,none⟩)∧e 1= .int .i64 o∧e 6= .int .i64 n∧e 7= .int .i64 i) n ⟨0,by omega,by omega,Kp.refl _ _,fun _ _ h=>h,h,by simp,by simp,by simp,by simp⟩ ?_
 rintro d e H' ⟨i,hi,rfl,hk,hks,hT,e0,e1,e6,e7⟩
 by_cases h3:i< n
 ·have h3':(i:Int)< n:=by omega
  have hcl:=zeB buf o i
  obtain ⟨hNp,v,hg,hA⟩:=id hT
  obtain ⟨a,c,rfl,hab⟩:=hA.len
  obtain ⟨b,rfl,hgb⟩:=hab (by omega)
  have hg':H'.get p= .cells [.slice (some ⟨b,0,none⟩) (cpN buf o i).length c,.int .i64 D,.int .i64 lim] 225 true:=hg
  have hplt:p< H'.next:=zai hg'
  have w1:IntKind.i64.wrap (((cpN buf o i).length:Int) - o)=(((cpN buf o i).length - o:Nat):Int):=by rw [wi (by omega) (by omega)];omega
  have w2:IntKind.i64.wrap ((i:Int)+1)=(i:Int)+1:=wi (by omega) (by omega)
  obtain ⟨L,hL⟩:∃L,L=cpN buf o i:=⟨_,rfl⟩
  rw [←hL] at hcl hT hg hg' hA hgb w1
  have hlt:L.length - o< L.length:=by omega
  have hlt':((L.length - o:Nat):Int)< L.length:=by omega
  obtain ⟨x,hx⟩:∃x,L[L.length - o]? =some x:=⟨_,List.getElem?_eq_getElem hlt⟩
  have hbx:(bvs L)[L.length - o]? =some (bv x):=by simp [bvs,hx]
  have hone:zaB (bv x)=true:=rfl
  have hgp:(H'.push (.cells [bv x] 5 true)).get p= .cells [.slice (some ⟨b,0,none⟩) L.length c,.int .i64 D,.int .i64 lim] 225 true:=by rw [zae hplt];exact hg'
  obtain ⟨HP,hHP⟩:∃HP,HP=H'.push (.cells [bv x] 5 true):=⟨_,rfl⟩
  have hAP:Acc 5 1 N H'.next HP (.slice (some ⟨b,0,none⟩) L.length c) L.length (bvs L):=hA.kp fun k _ hk=>by rw [hHP,zae hk]
  have hNn:N≤H'.next:=by omega
  obtain ⟨v',HE,hap,hE,nE,oE⟩:=hAP.appM (m:=1) (bytes:=1) (new:= [bv x]) (by rw [hHP];simp) (by rw [hHP];simp;omega) rfl (by unfold zag;omega)
  have hnP:HP.next=H'.next+1:=by rw [hHP];simp
  have hnp:∀b' m c',(Value.slice (some ⟨b,0,none⟩) L.length c)= .slice (some b') m c'→b'.block≠p:=hA.notp hg'
  have hEp:HE.get p= .cells [.slice (some ⟨b,0,none⟩) L.length c,.int .i64 D,.int .i64 lim] 225 true:=by rw [oE p (by omega) hnp,hHP];exact hgp
  simp [s208_0,e0,e1,e6,e7,h3,h3',zac,hg',w1,w2,hlt,hlt',hgb,hbx]
  have hPp:HP.get p= .cells [.slice (some ⟨b,0,none⟩) L.length c,.int .i64 D,.int .i64 lim] 225 true:=by rw [hHP];exact hgp
  have hPl:HP.get H'.next= .cells [bv x] 5 true:=by rw [hHP];exact zaf
  obtain ⟨a2,c2,rfl,_⟩:=hE.len
  have hit:zay (bv x)=false:=rfl
  have hcl:cellsL (bv x)= [bv x]:=rfl
  simp [-zbq,zaF,zaR,hit,hcl,wr,Env.ev,←hHP]
  simp [kop,Env.ev,hPp,zkw,zaP,hPl,rd,hap,kSt,hEp,zaB,e7,w2,e0,e1,e6]
  have hcp:cpN buf o (i+1)=L++ [x]:=by
   simp only [cpN,←hL,List.getD_eq_getElem?_getD,hx];rfl
  refine ⟨n - (i+1),by omega,i+1,by omega,rfl,?_,?_,?_,by simp⟩
  rotate_left
  ·intro k cs hkc
   have h1:=hks k cs hkc
   have h2:HP.get k= .cells cs 155 true:=by rw [hHP,zae (zai h1)];exact h1
   have hkp:p≠k:=by intro e;rw [e,h2] at hPp;injection hPp with _ e2 _;exact absurd e2 (by decide)
   rw [zaa (by omega),oE k (by have:=zai h1;omega) (hAP.nott h2 (by decide))]
   exact h2
  rotate_left
  ·refine ⟨by rw [next_put];have:=hk.1;omega,fun k hkN=>?_⟩
   rw [zaa (by omega),oE k (by have:=hk.1;omega) ?_,hHP,zae (by omega)]
   ·exact hk.2 k hkN
   ·intro b' m c' hv
    injection hv with e1 _ _
    injection e1 with e1
    subst e1
    rcases hA with ⟨_,_,hv⟩|⟨b2,c2,q1,q2,q3,_,q5,q6⟩
    ·cases hv
    ·injection q3 with e1 _ _
     injection e1 with e1
     injection e1 with e1
     simp only;omega
  ·rw [hcp]
   refine ⟨hNp,_,zad (by omega),?_⟩
   rw [List.length_append,next_put]
   have:bvs (L++ [x])=bvs L++ [bv x]:=by simp [bvs]
   rw [this]
   exact hE.putp hEp
 ·have hin:i=n:=by omega
  subst hin
  simp [s208_0,e6,e7]
  exact ⟨hk,hks,hT⟩
theorem zoP (h:Tx N p H buf D lim) (hD:D≤1000000) (hl:lim≤1000000) (hb:buf.length≤lim+D) (lits:Bytes) (hli:lits.length≤1000000) (s:Sqt):Wf S 166 [.pointer (some ⟨p,0,none⟩),.string (ofL lits),sqV s] H fun v H'=>match zjl D lim buf lits s with
  |some r=>v= .tuple #[.string (ofL r.2),.int .i64 0]∧Kp N H H'∧Tx N p H' r.1 D lim∧r.1.length≤lim+D∧r.2.length≤lits.length
  |none=>∃e:Int,e≠0∧v= .tuple #[.string (ofL []),.int .i64 e]∧Kp N H H':=by
 refine w166 rfl rfl _ _ _ ?_
 have hsv:sqV s= .agg #[.int .i64 s.l,.int .i64 s.m,.int .i64 s.o]:=rfl
 have g5:(H.push (.cells [.int .i64 s.l,.int .i64 s.m,.int .i64 s.o] 155 true)).get H.next= .cells [.int .i64 s.l,.int .i64 s.m,.int .i64 s.o] 155 true:=zaf
 obtain ⟨hNp,v,hg,hA⟩:=id h
 have hplt:p< H.next:=zai hg
 have hT1:Tx N p (H.push (.cells [.int .i64 s.l,.int .i64 s.m,.int .i64 s.o] 155 true)) buf D lim:=⟨hNp,v,by rw [zae hplt];exact hg,(hA.kp fun k _ hk=>zae hk).mono (by simp)⟩
 have hk1:Kp N H (H.push (.cells [.int .i64 s.l,.int .i64 s.m,.int .i64 s.o] 155 true)):=Kp.push (by omega)
 obtain ⟨H1,hH1⟩:∃H1,H1=H.push (.cells [.int .i64 s.l,.int .i64 s.m,.int .i64 s.o] 155 true):=⟨_,rfl⟩
 have hq:¬H.next< p:=by omega
 rw [←hH1] at hT1 hk1 g5
 have hn1:H1.next=H.next+1:=by rw [hH1];simp
 have hlen:(ofL lits).size=lits.length:=zal lits
 unfold zjl
 simp [-zbq,s166,hsv,zay,cellsL,zac,←hH1]
 by_cases c1:s.l< 0∨(lits.length:Int)< s.l
 ·rw [if_pos c1]
  by_cases c2:s.l< 0
  ·simp [g5,c2,tup,zam,zac]
   exact ⟨3,by decide,rfl,hk1⟩
  ·have c3:(lits.length:Int)< s.l:=by omega
   simp [g5,c2,c3,hlen,tup,zam,zac]
   exact ⟨3,by decide,rfl,hk1⟩
 rw [if_neg c1]
 have c2:¬s.l< 0:=by omega
 have c3:¬(lits.length:Int)< s.l:=by omega
 simp [g5,c2,c3,hlen,zac]
 refine (zjw hT1 hD hl (by omega) s.l).mono ?_
 rintro v1 H2 ⟨h2,rfl⟩
 rw [h2]
 by_cases c4:(lim:Int)+D< buf.length+s.l
 ·have c5:¬s.l≤(lim:Int)+D - buf.length:=by omega
  rw [if_pos c4,decide_eq_false c5]
  simp [tup,zam]
  exact ⟨5,by decide,rfl,hk1⟩
 have c5:s.l≤(lim:Int)+D - buf.length:=by omega
 rw [if_neg c4,decide_eq_true c5]
 obtain ⟨ln,hln⟩:∃ln,ln=s.l.toNat:=⟨_,rfl⟩
 have hll:(lits.take ln).length=ln:=by rw [List.length_take];omega
 have hT1g:H1.get p=TxB v D lim:=by obtain ⟨_,w,hw,_⟩:=hT1;rw [hH1,zae hplt];exact hg
 have hA1:Acc 5 1 N H1.next H1 v buf.length (bvs buf):=(hA.kp fun k _ hk=>by rw [hH1,zae hk]).mono (by omega)
 obtain ⟨v',HE,hap,hE,nE,oE⟩:=hA1.appM (m:=ln) (bytes:=1) (new:=bvs (lits.take ln)) (Nat.le_refl _) (by omega) (by rw [Nat.mul_one,bvs,List.length_map,hll]) (by unfold zag;omega)
 have hnp:=hA1.notp hT1g
 have hEp:HE.get p=TxB v D lim:=by rw [oE p (by omega) hnp];exact hT1g
 obtain ⟨a2,cc2,hv',_⟩:=hE.len
 obtain ⟨a1,cc1,hv,_⟩:=hA1.len
 have hsl:0≤s.l∧s.l≤lits.length:=by omega
 have hone:zaB v'=true:=by rw [hv'];rfl
 have hT1g':H1.get p= .cells [v,.int .i64 D,.int .i64 lim] 225 true:=hT1g
 have hEp':HE.get p= .cells [v,.int .i64 D,.int .i64 lim] 225 true:=hEp
 have g5E:HE.get H.next= .cells [.int .i64 s.l,.int .i64 s.m,.int .i64 s.o] 155 true:=by
  rw [oE _ (by omega) ?_];exact g5
  intro b m c hv2
  rcases hA with ⟨_,_,hv3⟩|⟨b2,c2,q1,q2,q3,_,q5,q6⟩
  ·rw [hv3] at hv2;cases hv2
  ·rw [q3] at hv2;injection hv2 with e1 _ _;injection e1 with e1;rw [←e1];simp only;omega
 simp [hT1g',g5,zac,ze1,hsl,zcZ,zal,←hln,hll,hap,kSt,hEp',hone]
 obtain ⟨H3,hH3⟩:∃H3,H3=HE.put p (.cells [v',.int .i64 D,.int .i64 lim] 225 true):=⟨_,rfl⟩
 rw [←hH3]
 have hpE:p< HE.next:=by omega
 have g53:H3.get H.next= .cells [.int .i64 s.l,.int .i64 s.m,.int .i64 s.o] 155 true:=by rw [hH3,zaa (by omega)];exact g5E
 have gp3:H3.get p= .cells [v',.int .i64 D,.int .i64 lim] 225 true:=by rw [hH3];exact zad hpE
 have hn3:H3.next=HE.next:=by rw [hH3];exact next_put
 obtain ⟨buf2,hb2⟩:∃buf2,buf2=buf++lits.take ln:=⟨_,rfl⟩
 have hb2l:buf2.length=buf.length+ln:=by rw [hb2,List.length_append,hll]
 have hT3:Tx N p H3 buf2 D lim:=by
  refine ⟨hNp,v',gp3,?_⟩
  have:=hE.putp (x:= .cells [v',.int .i64 D,.int .i64 lim] 225 true) hEp
  rw [←hH3] at this
  rw [hn3,hb2l,hb2]
  have e1:bvs (buf++lits.take ln)=bvs buf++bvs (lits.take ln):=by simp [bvs]
  rw [e1];exact this
 have hk3:Kp N H H3:=by
  refine ⟨by have:=hk1.1;omega,fun k hk=>?_⟩
  rw [hH3,zaa (by omega),oE k (by omega) ?_]
  ·exact hk1.2 k hk
  ·intro b m c hv2
   rcases hA with ⟨_,_,hv3⟩|⟨b2,c2,q1,q2,q3,_,q5,q6⟩
   ·rw [hv3] at hv2;cases hv2
   ·rw [q3] at hv2;injection hv2 with e1 _ _;injection e1 with e1;rw [←e1];simp only;omega
 rw [hv'] at gp3
 have hbl:(buf.length:Int)+s.l=((buf.length+ln:Nat):Int):=by omega
 by_cases c6:s.m< 3∨s.o< 1∨(buf.length:Int)+s.l< s.o
 ·rw [if_pos c6]
  by_cases d1:s.m< 3
  ·simp [g53,zac,d1,tup,zam]
   exact ⟨3,by decide,rfl,hk3⟩
  ·by_cases d2:s.o< 1
   ·simp [g53,zac,d1,d2,tup,zam]
    exact ⟨3,by decide,rfl,hk3⟩
   ·have d3:(buf.length:Int)+ln< s.o:=by omega
    simp [g53,gp3,zac,d1,d2,d3,tup,zam]
    exact ⟨3,by decide,rfl,hk3⟩
 rw [if_neg c6]
 have d1:¬s.m< 3:=by omega
 have d2:¬s.o< 1:=by omega
 have d3:¬(buf.length:Int)+ln< s.o:=by omega
 simp [g53,gp3,zac,d1,d2,d3]
 refine (zjw hT3 hD hl (by omega) s.m).mono ?_
 rintro v1 H4 ⟨h4,rfl⟩
 rw [h4]
 by_cases c7:(lim:Int)+D< buf.length+s.l+s.m
 ·have c8:¬s.m≤(lim:Int)+D - buf2.length:=by omega
  rw [if_pos c7,decide_eq_false c8]
  simp [tup,zam]
  exact ⟨5,by decide,rfl,hk3⟩
 have c8:s.m≤(lim:Int)+D - buf2.length:=by omega
 rw [if_neg c7,decide_eq_true c8]
 obtain ⟨o,ho⟩:∃o:Nat,s.o=o:=⟨s.o.toNat,by omega⟩
 obtain ⟨m,hm⟩:∃m:Nat,s.m=m:=⟨s.m.toNat,by omega⟩
 simp [g53,zac,ho,hm]
 refine (znq hT3 o m (by omega) (by omega) (by omega)).mono ?_
 rintro v1 H5 ⟨hk5,hks5,hT5⟩
 have g55:=hks5 _ _ g53
 rw [ho,hm] at g55
 have hsl2:0≤s.l∧s.l≤(lits.length:Int):=hsl
 simp [g55,zac,zbA,hsl2,tup,←hln]
 rw [←hb2]
 exact ⟨hk3.trans hk5,hT5,by rw [zeB];omega⟩
end
theorem zoQ {D lim:Nat} {b l:Bytes} {s:Sqt} {r:Bytes×Bytes} (h:zjl D lim b l s=some r) (hd:D≤b.length):D≤r.1.length:=by
 unfold zjl at h
 split at h
 ·cases h
 ·split at h
  ·cases h
  ·split at h
   ·cases h
   ·split at h
    ·cases h
    ·cases h
     simp only [zeB,List.length_append]
     omega
section
variable {H:Heap}
def XO (v:Value):Option Bytes→Prop
 |some o=>v= .tuple #[.string (ofL o),.int .i64 0]
 |none=>∃e:Int,e≠0∧v= .tuple #[.string (ofL []),.int .i64 e]
theorem zkx {l:List Sqt} {i:Nat} {x:Sqt} (h:l[i]? =some x):rd (sqs l) (i*3) 3=some [.int .i64 x.l,.int .i64 x.m,.int .i64 x.o]:=by
 have hi:i< l.length:=(List.getElem?_eq_some_iff.1 h).1
 have e:sqs l=l.flatMap fun x=> [.int .i64 x.l,.int .i64 x.m,.int .i64 x.o]:=rfl
 unfold rd
 rw [if_pos (by rw [zeS];omega)]
 congr 1
 have h1:l=l.take i++x::l.drop (i+1):=by
  have:=List.drop_eq_getElem_cons hi
  rw [(List.getElem?_eq_some_iff.1 h).2] at this
  rw [←this,List.take_append_drop]
 have h2:sqs l=sqs (l.take i)++([.int .i64 x.l,.int .i64 x.m,.int .i64 x.o]++sqs (l.drop (i+1))):=by
  conv=>lhs;rw [h1]
  simp [sqs]
 rw [h2,List.drop_append,zeS,List.length_take,Nat.min_eq_left (by omega),Nat.sub_self,List.drop_eq_nil_of_le (by rw [zeS,List.length_take];omega)]
 rfl
theorem zrN {N M:Nat} {w:Value} (dict lits:Bytes) (l:List Sqt) (hA:Acc 155 3 N M H w l.length (sqs l)) (hMH:M≤H.next) (lim:Nat) (hD:dict.length≤1000000) (hl:lim≤1000000) (hli:lits.length≤1000000) (hll:l.length≤1000000):Wf S 125 [.string (ofL dict),.string (ofL lits),w,.int .i64 lim] H fun v H'=>Kp H.next H H'∧XO v (exF dict.length lim dict lits l):=by
 refine w125 rfl rfl _ _ _ _ ?_
 have hs2:=fun K=>zb1 (S:=S) (e:= []) (K:=K) (H:=H) (l:=dict) (t:=5) (by unfold zag;omega)
 have hmx:max (lim:Int) 0=lim:=by omega
 obtain ⟨a,c,hw,hab⟩:=hA.len
 obtain ⟨HA,hHA⟩:∃HA,HA=H.push (.cells (bvs dict) 5 true):=⟨_,rfl⟩
 have hnA:HA.next=H.next+1:=by rw [hHA];simp
 have hgA:HA.get H.next= .cells (bvs dict) 5 true:=by rw [hHA];exact zaf
 obtain ⟨HB,hHB⟩:∃HB,HB=HA.push (TxB (.slice (some ⟨H.next,0,none⟩) dict.length zat) dict.length lim):=⟨_,rfl⟩
 have hT:Tx H.next HA.next HB dict dict.length lim:=by
  refine ⟨by omega,_,by rw [hHB];exact zaf,.inr ⟨H.next,zat,Nat.le_refl _,by rw [hHB];simp;omega,rfl,.inl rfl,by rw [hHB,zae (by omega)];exact hgA,by simp [bvs]⟩⟩
 have hkB:Kp H.next H HB:=by
  rw [hHB,hHA];exact (Kp.push (Nat.le_refl _)).trans (Kp.push (by simp))
 unfold TxB at hHB
 rw [hw]
 simp [-zbq,s125,hs2,hmx,zal,zaF,zaR,zay,cellsL,wr,Env.ev,←hHA,←hHB]
 refine l125_0 S (fun d e H'=>∃(i:Nat) (buf lit2:Bytes),i≤l.length∧d=l.length - i∧exF dict.length lim dict lits l=exF dict.length lim buf lit2 (l.drop i)∧Tx H.next HA.next H' buf dict.length lim∧(buf.length≤lim+dict.length∧dict.length≤buf.length)∧lit2.length≤1000000∧Kp H.next H H'∧e 1= .string (ofL lit2)∧e 10= .pointer (some ⟨HA.next,0,none⟩)∧e 23= .slice a l.length c∧e 24= .int .i64 l.length∧e 25= .int .i64 i) l.length ⟨0,dict,lits,by omega,by omega,rfl,hT,⟨by omega,by omega⟩,hli,hkB,by simp,by simp,by simp,by simp,by simp⟩ ?_
 rintro d e H' ⟨i,buf,lit2,hi,rfl,hF,hT',⟨hbl,hdl⟩,hl2,hk',e1,e10,e23,e24,e25⟩
 rw [hF]
 by_cases h3:i< l.length
 ·have h3':(i:Int)< l.length:=by omega
  obtain ⟨sp,hsp⟩:∃x,l[i]? =some x:=⟨_,List.getElem?_eq_getElem h3⟩
  obtain ⟨g1,g2⟩:=List.getElem?_eq_some_iff.1 hsp
  have hdr:l.drop i=sp::l.drop (i+1):=by rw [List.drop_eq_getElem_cons g1,g2]
  rw [hdr]
  obtain ⟨b,rfl,hgb⟩:=hab (by omega)
  have hgb':H'.get b= .cells (sqs l) 155 true:=by rw [hk'.2 b (zai hgb)];exact hgb
  have hrd:=zkx hsp
  have hr3:i*3+3≤(sqs l).length:=by rw [zeS];omega
  have htk:List.take 3 (List.drop (i*3) (sqs l))= [.int .i64 sp.l,.int .i64 sp.m,.int .i64 sp.o]:=by
   unfold rd at hrd;rw [if_pos hr3] at hrd;exact Option.some.inj hrd
  have w1:IntKind.i64.wrap ((i:Int)+1)=(i:Int)+1:=wi (by omega) (by omega)
  have gl:(H'.push (.cells [.int .i64 0,.int .i64 0,.int .i64 0] 155 true)).get H'.next= .cells [.int .i64 0,.int .i64 0,.int .i64 0] 155 true:=zaf
  have hk1:Kp H.next H' (H'.push (.cells [.int .i64 0,.int .i64 0,.int .i64 0] 155 true)):=Kp.push (by have:=hk'.1;omega)
  have hoP:∀k,k< H'.next→(H'.push (.cells [.int .i64 0,.int .i64 0,.int .i64 0] 155 true)).get k=H'.get k:=fun k hk=>zae hk
  obtain ⟨H1,hH1⟩:∃H1,H1=H'.push (.cells [.int .i64 0,.int .i64 0,.int .i64 0] 155 true):=⟨_,rfl⟩
  rw [←hH1] at gl hk1 hoP
  have hn1:H1.next=H'.next+1:=by rw [hH1];simp
  obtain ⟨H2,hH2⟩:∃H2,H2=H1.put H'.next (.cells [.int .i64 sp.l,.int .i64 sp.m,.int .i64 sp.o] 155 true):=⟨_,rfl⟩
  have g2:H2.get H'.next= .cells [.int .i64 sp.l,.int .i64 sp.m,.int .i64 sp.o] 155 true:=by rw [hH2];exact zad (by omega)
  have hn2:H2.next=H1.next:=by rw [hH2];exact next_put
  have hk2:Kp H.next H' H2:=by rw [hH2];exact hk1.trans (Kp.put (by have:=hk'.1;omega))
  have hT2:Tx H.next HA.next H2 buf dict.length lim:=by
   obtain ⟨t1,v,t2,t3⟩:=hT'
   have:=zai t2
   refine ⟨t1,v,by rw [hH2,zaa (by omega),hoP _ this];exact t2,(t3.kp fun k _ hk=>by rw [hH2,zaa (by omega),hoP _ hk]).mono (by omega)⟩
  simp [s125_0,e1,e10,e23,e24,e25,h3,h3',zac,zaL,hgb',hr3,htk,-zbq,←hH1,zaT,gl,wr,←hH2,g2,rd]
  have hx:=zoP hT2 hD hl hbl lit2 hl2 sp
  unfold sqV at hx
  refine hx.mono ?_
  intro v H3 hv
  simp only [exF]
  cases hst:zjl dict.length lim buf lit2 sp with
  |none=>
   rw [hst] at hv
   obtain ⟨er,her,rfl,hk3⟩:=hv
   simp [her,tup,XO,zam]
   exact (hk'.trans hk2).trans hk3
  |some r=>
   rw [hst] at hv
   obtain ⟨rfl,hk3,hT3,q1,q2⟩:=hv
   simp [e24,e25,w1,e10,e23]
   exact ⟨l.length - (i+1),by omega,i+1,by omega,rfl,r.1,r.2,rfl,hT3,⟨q1,zoQ hst hdl⟩,by omega,(hk'.trans hk2).trans hk3,rfl,by omega⟩
 ·have hin:i=l.length:=by omega
  subst hin
  rw [List.drop_eq_nil_of_le (Nat.le_refl _)]
  simp [s125_0,e24,e25,e1,e10,zal]
  refine (zjw hT' hD hl (by omega) lit2.length).mono ?_
  rintro v1 H2 ⟨h2,rfl⟩
  rw [h2]
  simp only [exF]
  by_cases c4:lim+dict.length< buf.length+lit2.length
  ·have c5:¬(lit2.length:Int)≤(lim:Int)+dict.length - buf.length:=by omega
   rw [if_pos c4,decide_eq_false c5]
   simp [tup,zam,XO]
   exact hk'
  have c5:(lit2.length:Int)≤(lim:Int)+dict.length - buf.length:=by omega
  rw [if_neg c4,decide_eq_true c5]
  obtain ⟨t1,v,t2,t3⟩:=hT'
  obtain ⟨v',HE,hap,hE,nE,oE⟩:=t3.appM (m:=lit2.length) (bytes:=1) (new:=bvs lit2) (Nat.le_refl _) (by have:=hk'.1;omega) (by rw [Nat.mul_one,bvs,List.length_map]) (by unfold zag;omega)
  have t2':H'.get HA.next= .cells [v,.int .i64 dict.length,.int .i64 lim] 225 true:=t2
  have t2E:HE.get HA.next= .cells [v,.int .i64 dict.length,.int .i64 lim] 225 true:=by rw [oE _ (zai t2) (t3.notp t2)];exact t2
  simp [e10,e1,t2',zac,zcZ,zal,hap,kop,Env.ev,t2E,zgt]
  have hlE:(bvs buf++bvs lit2)=bvs (buf++lit2):=by simp [bvs]
  have hkE:Kp H.next H HE:=by
   refine ⟨by have:=hk'.1;omega,fun k hk=>?_⟩
   have:=hk'.1
   rw [oE k (by omega) ?_]
   ·exact hk'.2 k hk
   ·intro b m c hv2
    rcases t3 with ⟨_,_,hv3⟩|⟨b2,c2,q1,q2,q3,_,q5,q6⟩
    ·rw [hv3] at hv2;cases hv2
    ·rw [q3] at hv2;injection hv2 with e1 _ _;injection e1 with e1;rw [←e1];simp only;omega
  rw [hlE] at hE
  rcases hE with ⟨z1,z2,rfl⟩|⟨b2,c2,q1,q2,rfl,q4,q5,q6⟩
  ·have z3:dict.length=0:=by omega
   have z4:buf++lit2= []:=List.length_eq_zero_iff.1 (by rw [List.length_append];omega)
   have hsl:∀K:Kv,run S (.slc 5 1 (.c (.slice none 0 0)) (some (.c (.int .i64 (0:Nat)))) none) [] HE K=K (.slice none 0 0) HE:=fun K=>rfl
   have hb:=fun K=>zfi (S:=S) (e:= []) (K:=K) (H:=HE) (t:=5) (a:=none) (n:=0) (c:=0) (l:= []) rfl
   rw [z4,z3,hsl,hb]
   exact ⟨hkE,rfl⟩
  ·have hsl:=fun K=>zcL (S:=S) (H:=HE) (K:=K) (b:=b2) (o:=0) (n:=buf.length+lit2.length) (c:=c2) (t:=5) (m:=dict.length) (by rcases q4 with h|h<;>omega) q5 (by omega)
   rw [hsl]
   have hq6:(bvs (buf++lit2)).length=buf.length+lit2.length:=by simp [bvs]
   have hrow:zaP HE 5 1 (buf.length+lit2.length - dict.length) (some ⟨b2,if c2≠zat∧dict.length=c2 then 0 else 0+dict.length,none⟩)=some (bvs ((buf++lit2).drop dict.length)):=by
    simp only [zaP,q5,if_true,rd]
    by_cases hc:c2≠zat∧dict.length=c2
    ·have e0:buf.length+lit2.length - dict.length=0:=by rcases q4 with h|h<;>omega
     have e1:(buf++lit2).drop dict.length= []:=List.drop_eq_nil_of_le (by rw [List.length_append];omega)
     rw [if_pos hc,e0,e1,if_pos (by omega)]
     simp [bvs]
    ·rw [if_neg hc,if_pos (by omega)]
     simp only [bvs,Nat.zero_add,Nat.mul_one,List.map_drop]
     rw [List.take_of_length_le (by simp)]
   rw [zfi hrow]
   exact ⟨hkE,rfl⟩
end
set_option maxHeartbeats 4000000
def zbW:Bytes→Nat
 | []=>0
 |c::t=>c.toNat+256*zbW t
theorem zgX (x:UInt8):∀l:Bytes,zbW (l++ [x])=zbW l+x.toNat*256 ^ l.length
 | []=>by simp [zbW]
 |c::t=>by
  simp only [List.cons_append,zbW,zgX x t,List.length_cons,Nat.pow_succ]
  rw [Nat.mul_add,Nat.add_assoc]
  congr 2
  rw [←Nat.mul_assoc,Nat.mul_comm 256 x.toNat,Nat.mul_assoc,Nat.mul_comm 256]
theorem zfJ:∀l:Bytes,zbW l< 256 ^ l.length
 | []=>by simp [zbW]
 |c::t=>by
  have h1:=zfJ t
  have h2:=c.toNat_lt
  simp only [zbW,List.length_cons,Nat.pow_succ]
  have:256*zbW t+256≤256 ^ t.length*256:=by
   have:=Nat.mul_le_mul_right 256 (show zbW t+1≤256 ^ t.length from h1)
   omega
  omega
section
variable {H:Heap} {b:Nat} {l:Bytes} {bad:Bool}
theorem znr (h:Rd H b l bad):Wf S 82 [.pointer (some ⟨b,0,none⟩),.int .i64 8] H fun v H'=>v= .int .u64 (zbW (zar l bad 8))∧Rd H' b (zaE l bad 8) (zax l bad 8)∧Kq b H H':=by
 refine w82 rfl rfl _ _ ?_
 simp [s82]
 refine (zmR H 8).mono ?_
 rintro v H1 ⟨rfl,rfl⟩
 try simp
 refine (zde h _).mono ?_
 rintro v H2 ⟨rfl,rfl⟩
 have e1:(min (max 8 0) 8:Int).toNat=8:=by decide
 rw [e1]
 have hlt:=h.lt
 have hrd:Rd (H1.put b (RdB (zaE l bad 8) (zax l bad 8))) b (zaE l bad 8) (zax l bad 8):=zaZ hlt
 have hkq:Kq b H1 (H1.put b (RdB (zaE l bad 8) (zax l bad 8))):=Kq.put
 have hlen:(zar l bad 8).length≤8:=by unfold zar;split<;>simp;omega
 obtain ⟨L,hL⟩:∃L,L=zar l bad 8:=⟨_,rfl⟩
 rw [←hL] at hlen⊢
 rw [zb1 (by unfold zag;omega)]
 obtain ⟨H3,hH3⟩:∃H3,H3=H1.put b (RdB (zaE l bad 8) (zax l bad 8)):=⟨_,rfl⟩
 rw [←hH3] at hrd hkq⊢
 have hg:(H3.push (.cells (bvs L) 5 true)).get H3.next= .cells (bvs L) 5 true:=zaf
 have hr4:Rd (H3.push (.cells (bvs L) 5 true)) b (zaE l bad 8) (zax l bad 8):=by unfold Rd;rw [zae hrd.lt];exact hrd
 have hk4:Kq b H1 (H3.push (.cells (bvs L) 5 true)):=hkq.trans (Kq.of (Kp.push (Nat.le_refl _)))
 obtain ⟨H4,hH4⟩:∃H4,H4=H3.push (.cells (bvs L) 5 true):=⟨_,rfl⟩
 rw [←hH4] at hg hr4 hk4⊢
 simp
 refine l82_0 S (fun d e H'=>∃i:Nat,i≤L.length∧d=L.length - i∧H'=H4∧e 5= .int .u64 (zbW (L.take i))∧e 12= .slice (some ⟨H3.next,0,none⟩) L.length zat∧e 13= .int .i64 L.length∧e 14= .int .i64 i) L.length ⟨0,by omega,by omega,rfl,by simp [zbW],by simp,by simp,by simp⟩ ?_
 rintro d e H' ⟨i,hi,rfl,rfl,e5,e12,e13,e14⟩
 by_cases h3:i< L.length
 ·have h3':(i:Int)< L.length:=by omega
  obtain ⟨x,hx⟩:∃x,L[i]? =some x:=⟨_,List.getElem?_eq_getElem h3⟩
  have hbx:(bvs L)[i]? =some (bv x):=by simp [bvs,hx]
  have hxl:=x.toNat_lt
  have w1:IntKind.i64.wrap ((i:Int)+1)=(i:Int)+1:=wi (by omega) (by omega)
  have w2:IntKind.i64.wrap (8*(i:Int))=((8*i:Nat):Int):=by rw [wi (by omega) (by omega)];omega
  have w3:IntKind.u64.wrap (x.toNat:Int)=x.toNat:=wuL (by omega)
  obtain ⟨V,hV⟩:∃V,V=zbW (L.take i):=⟨_,rfl⟩
  have hVl:V< 2 ^ (8*i):=by
   have:=zfJ (L.take i)
   rw [←hV,List.length_take,Nat.min_eq_left (by omega),show (256:Nat)=2 ^ 8 from rfl,←Nat.pow_mul] at this
   exact this
  have p8:2 ^ (8*i)*256≤18446744073709551616:=by
   have:2 ^ (8*i)≤2 ^ 56:=Nat.pow_le_pow_right (by omega) (by omega)
   omega
  have hxp:x.toNat*2 ^ (8*i)+2 ^ (8*i)≤2 ^ (8*i)*256:=by
   have:=Nat.mul_le_mul_right (2 ^ (8*i)) (show x.toNat+1≤256 by omega)
   rw [Nat.add_mul,Nat.one_mul,Nat.mul_comm 256] at this
   exact this
  have hsh:zau .shl (.int .u64 (x.toNat:Int)) (.int .i64 ((8*i:Nat):Int))=some (.int .u64 ((x.toNat*2 ^ (8*i):Nat):Int)):=by
   rw [zcf,if_neg (by omega)]
   have hm:min ((8*i:Nat):Int).toNat IntKind.u64.bits=8*i:=by rw [Int.toNat_natCast];exact Nat.min_eq_left (by show 8*i≤64;omega)
   rw [hm]
   congr 2
   have:=wuL (n:=x.toNat*2 ^ (8*i)) (by omega)
   rw [←this]
   congr 1
  have hor:zau .or (.int .u64 (V:Int)) (.int .u64 ((x.toNat*2 ^ (8*i):Nat):Int))=some (.int .u64 ((zbW (L.take (i+1)):Nat):Int)):=by
   rw [zf6 (k:= .u64) (show V< 2 ^ 64 by omega) (show x.toNat*2 ^ (8*i)< 2 ^ 64 by omega),zex hVl,wuL (by omega)]
   congr 3
   rw [List.take_add_one,hx]
   show _=zbW (L.take i++ [x])
   rw [zgX,←hV,List.length_take,Nat.min_eq_left (by omega),show (256:Nat)=2 ^ 8 from rfl,←Nat.pow_mul]
  obtain ⟨X,hX⟩:∃X,X=x.toNat*2 ^ (8*i):=⟨_,rfl⟩
  obtain ⟨W,hW⟩:∃W,W=8*i:=⟨_,rfl⟩
  rw [←hV] at e5
  rw [←hX,←hW] at hsh
  rw [←hX] at hor
  rw [←hW] at w2
  simp [s82_0,e5,e12,e13,e14,h3,h3',zac,hg,hbx,bv,w1,w2,w3,hsh,hor]
  exact ⟨L.length - (i+1),by omega,i+1,by omega,rfl,rfl,by omega⟩
 ·have hin:i=L.length:=by omega
  subst hin
  rw [List.take_length] at e5
  simp [s82_0,e5,e13,e14]
  exact ⟨hr4,hk4⟩
theorem zgu (h:Rd H b l bad):Wf S 63 [.pointer (some ⟨b,0,none⟩)] H fun v H'=>H'=H∧v= .bool (!bad && decide (l= [])):=by
 refine w63 rfl rfl _ ?_
 have h':H.get b= .cells [.string (ofL l),.bool bad] 119 true:=h
 simp [s63]
 refine (zbd h).mono ?_
 rintro v H1 ⟨rfl,rfl⟩
 cases bad with
 |true=>simp
 |false=>
  simp [zac,h']
  rw [zam,zaO,zaO]
  cases l<;>rfl
end
structure Hdt where
 kind:Nat
 epoch:Nat
 size:Nat
 sum:Nat
def hdP (s:Bytes):Option (Hdt×Bytes):=match s with
 | []=>none
 |k::u=>if 2< k.toNat then none else (zao u false 1073741824).bind fun e=>(zao e.2 false 1099511627776).bind fun n=>
  if n.2.length< 8 then none else some (⟨k.toNat,e.1,n.1,zbW (n.2.take 8)⟩,n.2.drop 8)
def hdL (h:Hdt):List Value:= [.int .i64 h.kind,.int .i64 h.epoch,.int .i64 h.size,.int .u64 h.sum]
def hdO (h:Hdt):Value:= .agg (hdL h).toArray
section
variable {H:Heap} {b:Nat} {s:Bytes}
theorem zns (h:Rd H b s false):Wf S 53 [.pointer (some ⟨b,0,none⟩)] H fun v H'=>Kq b H H'∧match hdP s with
  |some p=>v= .tuple #[hdO p.1,.int .i64 0]∧Rd H' b p.2 false
  |none=>v= .tuple #[hdO ⟨0,0,0,0⟩,.int .i64 3]:=by
 refine w53 rfl rfl _ ?_
 have hblt:=h.lt
 have Z4:∀HX:Heap,(HX.push (.cells [.int .i64 0,.int .i64 0,.int .i64 0,.int .u64 0] 79 true)).get HX.next= .cells [.int .i64 0,.int .i64 0,.int .i64 0,.int .u64 0] 79 true:=fun HX=>zaf
 have g2:=Z4 H
 have hr1:Rd (H.push (.cells [.int .i64 0,.int .i64 0,.int .i64 0,.int .u64 0] 79 true)) b s false:=by unfold Rd;rw [zae hblt];exact h
 have hk1:Kq b H (H.push (.cells [.int .i64 0,.int .i64 0,.int .i64 0,.int .u64 0] 79 true)):=Kq.of (Kp.push (Nat.le_refl _))
 obtain ⟨H1,hH1⟩:∃H1,H1=H.push (.cells [.int .i64 0,.int .i64 0,.int .i64 0,.int .u64 0] 79 true):=⟨_,rfl⟩
 have n1:H1.next=H.next+1:=by rw [hH1];simp
 rw [←hH1] at g2 hr1 hk1
 simp [s53,←hH1]
 refine (zeD hr1).mono ?_
 rintro v H2 ⟨rfl,hr2,nx2,old2⟩
 have hk2:Kq b H1 H2:=⟨nx2,old2⟩
 obtain ⟨L1,hL1⟩:∃L,L=zaE s false 1:=⟨_,rfl⟩
 obtain ⟨B1,hB1⟩:∃B,B=zax s false 1:=⟨_,rfl⟩
 obtain ⟨K1,hK1⟩:∃K,K=(zar s false 1).headD 0:=⟨_,rfl⟩
 rw [←hL1,←hB1] at hr2
 rw [←hK1]
 have hkl:=K1.toNat_lt
 have w0:IntKind.i64.wrap (K1.toNat:Int)=K1.toNat:=wi (by omega) (by omega)
 simp [w0]
 refine (zgg hr2 1073741824 (by omega)).mono ?_
 rintro v H3 ⟨rfl,rfl⟩
 obtain ⟨E,hE⟩:∃E,E=zao L1 B1 1073741824:=⟨_,rfl⟩
 rw [←hE]
 have hr3:Rd (H2.put b (RdB (grL E) E.isNone)) b (grL E) E.isNone:=zaZ hr2.lt
 have hk3:Kq b H1 (H2.put b (RdB (grL E) E.isNone)):=hk2.trans Kq.put
 obtain ⟨H3,hH3⟩:∃H3,H3=H2.put b (RdB (grL E) E.isNone):=⟨_,rfl⟩
 rw [←hH3] at hr3 hk3⊢
 try simp
 refine (zgg hr3 1099511627776 (by omega)).mono ?_
 rintro v H4 ⟨rfl,rfl⟩
 obtain ⟨Nn,hNn⟩:∃N,N=zao (grL E) E.isNone 1099511627776:=⟨_,rfl⟩
 rw [←hNn]
 have hr4:Rd (H3.put b (RdB (grL Nn) Nn.isNone)) b (grL Nn) Nn.isNone:=zaZ hr3.lt
 have hk4:Kq b H1 (H3.put b (RdB (grL Nn) Nn.isNone)):=hk3.trans Kq.put
 obtain ⟨H4,hH4⟩:∃H4,H4=H3.put b (RdB (grL Nn) Nn.isNone):=⟨_,rfl⟩
 rw [←hH4] at hr4 hk4⊢
 have z5:=Z4 H4
 have hr5:Rd (H4.push (.cells [.int .i64 0,.int .i64 0,.int .i64 0,.int .u64 0] 79 true)) b (grL Nn) Nn.isNone:=by unfold Rd;rw [zae hr4.lt];exact hr4
 have hk5:Kq b H1 (H4.push (.cells [.int .i64 0,.int .i64 0,.int .i64 0,.int .u64 0] 79 true)):=hk4.trans (Kq.of (Kp.push (Nat.le_refl _)))
 obtain ⟨H5,hH5⟩:∃H5,H5=H4.push (.cells [.int .i64 0,.int .i64 0,.int .i64 0,.int .u64 0] 79 true):=⟨_,rfl⟩
 rw [←hH5] at z5 hr5 hk5
 have n5:H5.next=H4.next+1:=by rw [hH5];simp
 have n4:=hk4.1
 obtain ⟨H6,hH6⟩:∃H6,H6=H5.put H4.next (.cells [.int .i64 K1.toNat,.int .i64 (gvN E),.int .i64 (gvN Nn),.int .u64 0] 79 true):=⟨_,rfl⟩
 have hr6:Rd H6 b (grL Nn) Nn.isNone:=by unfold Rd;rw [hH6,zaa (by omega)];exact hr5
 have z6:H6.get H4.next= .cells [.int .i64 K1.toNat,.int .i64 (gvN E),.int .i64 (gvN Nn),.int .u64 0] 79 true:=by rw [hH6];exact zad (by omega)
 have n6:H6.next=H5.next:=by rw [hH6];exact next_put
 have hk6:Kq b H1 H6:=⟨by omega,fun k hk hkb=>by rw [hH6,zaa (by omega)];exact hk5.2 k hk hkb⟩
 simp [zaF,zaR,zay,cellsL,wr,Env.ev,←hH5,zaT,z5,←hH6]
 refine (znr hr6).mono ?_
 rintro v H7 ⟨rfl,hr7,hk7⟩
 have n7:=hk7.1
 have z7:H7.get H4.next= .cells [.int .i64 K1.toNat,.int .i64 (gvN E),.int .i64 (gvN Nn),.int .u64 0] 79 true:=by rw [hk7.2 _ (by omega) (by omega)];exact z6
 obtain ⟨V,hV⟩:∃V,V=zbW (zar (grL Nn) Nn.isNone 8):=⟨_,rfl⟩
 obtain ⟨B8,hB8⟩:∃B,B=zax (grL Nn) Nn.isNone 8:=⟨_,rfl⟩
 obtain ⟨L8,hL8⟩:∃L,L=zaE (grL Nn) Nn.isNone 8:=⟨_,rfl⟩
 rw [←hV]
 rw [←hB8,←hL8] at hr7
 obtain ⟨H8,hH8⟩:∃H8,H8=H7.put H4.next (.cells [.int .i64 K1.toNat,.int .i64 (gvN E),.int .i64 (gvN Nn),.int .u64 V] 79 true):=⟨_,rfl⟩
 have hr8:Rd H8 b L8 B8:=by unfold Rd;rw [hH8,zaa (by omega)];exact hr7
 have z8:H8.get H4.next= .cells [.int .i64 K1.toNat,.int .i64 (gvN E),.int .i64 (gvN Nn),.int .u64 V] 79 true:=by rw [hH8];exact zad (by omega)
 have n8:H8.next=H7.next:=by rw [hH8];exact next_put
 have hk8:Kq b H1 H8:=⟨by omega,fun k hk hkb=>by rw [hH8,zaa (by omega),hk7.2 k (by omega) hkb];exact hk6.2 k hk hkb⟩
 have z2:H8.get H.next= .cells [.int .i64 0,.int .i64 0,.int .i64 0,.int .u64 0] 79 true:=by rw [hk8.2 _ (by omega) (by omega)];exact g2
 have hsp:hdP s=if B8=true∨2< K1.toNat then none else some (⟨K1.toNat,gvN E,gvN Nn,V⟩,L8):=by
  have io:∀(x:Bytes) (m:Nat),zao x true m=none:=fun x m=>by simp [zao,zaz]
  cases s with
  |nil=>
   have e1:L1= []:=by rw [hL1];rfl
   have e2:B1=true:=by rw [hB1];rfl
   have e3:E=none:=by rw [hE,e2,io]
   have e4:Nn=none:=by rw [hNn,e3];exact io _ _
   have e5:B8=true:=by rw [hB8,e4];rfl
   rw [if_pos (.inl e5)];rfl
  |cons k u=>
   have e1:L1=u:=by rw [hL1];simp [zaE]
   have e2:B1=false:=by rw [hB1];simp [zax]
   have e3:K1=k:=by rw [hK1];simp [zar]
   rw [e1,e2] at hE
   simp only [hdP,e3,←hE]
   by_cases hk2:2< k.toNat
   ·rw [if_pos hk2,if_pos (.inr hk2)]
   ·rw [if_neg hk2]
    cases hEc:E with
    |none=>
     rw [hEc] at hNn
     have e4:Nn=none:=by rw [hNn];exact io _ _
     have e5:B8=true:=by rw [hB8,e4];rfl
     rw [if_pos (.inl e5)];rfl
    |some e=>
     rw [hEc] at hNn
     simp only [grL,Option.isNone_some] at hNn
     simp only [Option.bind_some]
     rw [←hNn]
     cases hNc:Nn with
     |none=>
      have e5:B8=true:=by rw [hB8,hNc];rfl
      rw [if_pos (.inl e5)];rfl
     |some n=>
      rw [hNc] at hB8 hL8 hV
      have hgn:grL (some n)=n.2:=rfl
      simp only [Option.isNone_some,hgn] at hB8 hL8 hV
      simp only [Option.bind_some,gvN]
      by_cases h8:n.2.length< 8
      ·have e5:B8=true:=by rw [hB8];simp [zax,h8]
       rw [if_pos h8,if_pos (.inl e5)]
      ·have e5:B8=false:=by rw [hB8];simp [zax,h8]
       rw [if_neg h8,if_neg (by rw [e5];simp;omega),hV,hL8]
       simp [zar,zaE,h8]
 simp [zac,kSt,z7,zaB,←hH8]
 refine (zbd hr8).mono ?_
 rintro v H9 ⟨h9,rfl⟩
 rw [h9]
 have hps:H8.put H.next (.cells [.int .i64 0,.int .i64 0,.int .i64 0,.int .u64 0] 79 true)=H8:=zcH z2
 have hkH:Kq b H H8:=hk1.trans hk8
 rw [hsp]
 by_cases hb8:B8=true∨2< K1.toNat
 ·rw [if_pos hb8]
  by_cases hbt:B8=true
  ·simp [hbt,z2,hps,zaL,rd,tup,hdO,hdL]
   exact hkH
  ·have hbf:B8=false:=by simpa using hbt
   have hk2:2< K1.toNat:=by rcases hb8 with h|h;exact absurd h hbt;exact h
   have hk2':(2:Int)< K1.toNat:=by omega
   simp [hbf,zac,z8,hk2,hk2',z2,hps,zaL,rd,tup,hdO,hdL]
   exact hkH
 ·rw [if_neg hb8]
  have hbf:B8=false:=by
   cases hB:B8 with
   |false=>rfl
   |true=>exact absurd (.inl hB) hb8
  have hk2:¬2< K1.toNat:=fun h=>hb8 (.inr h)
  have hk2':¬(2:Int)< K1.toNat:=by omega
  obtain ⟨HA,hHA⟩:∃HA,HA=H8.put H.next (.cells [.int .i64 K1.toNat,.int .i64 (gvN E),.int .i64 (gvN Nn),.int .u64 V] 79 true):=⟨_,rfl⟩
  have zA:HA.get H.next= .cells [.int .i64 K1.toNat,.int .i64 (gvN E),.int .i64 (gvN Nn),.int .u64 V] 79 true:=by rw [hHA];exact zad (by omega)
  rw [hbf] at hr8
  simp [hbf,zac,z8,hk2,hk2',z2,zaL,rd,zaT,wr,←hHA,zA,tup,hdO,hdL]
  refine ⟨⟨by rw [hHA,next_put];exact hkH.1,fun k hk hkb=>by rw [hHA,zaa (by omega)];exact hkH.2 k hk hkb⟩,?_⟩
  unfold Rd
  rw [hHA,zaa (by omega)];exact hr8
end
set_option maxHeartbeats 2000000
section
variable {l:List Int} {b s:Bytes}
theorem zoR {n:Nat} {d:Bytes} (hw:zaJ l=true) (h:zdB l s n=some d):okB l d∧d.length=n:=by
 have hr:zaS l=true:=by simp only [zaJ,Bool.and_eq_true] at hw;exact hw.1
 unfold zdB at h
 simp only [Option.bind_eq_some_iff] at h
 obtain ⟨⟨d0,a⟩,h1,h2⟩:=h
 split at h2
 ·simp only [Option.some.injEq] at h2
  subst h2
  obtain ⟨q1,q2,q3,q4⟩:=zeO hr n d0 a h1
  exact ⟨q4,q1⟩
 ·cases h2
end
set_option maxHeartbeats 4000000
noncomputable def mdP (s dict:Bytes) (size:Nat):Option Bytes:=(zcy s size).bind fun l=>(zgA l.2 size).bind fun q=>
 if q.2= [] then (exF dict.length size dict l.1 q.1).bind fun b=>if b.length=size then some b else none else none
def XB (v:Value):Option Bytes→Prop
 |some o=>v= .tuple #[.string (ofL o),.bool true]
 |none=>∃x,v= .tuple #[.string (ofL x),.bool false]
theorem znt {k:UInt8} {n:Nat} {u:Bytes} {p:Bytes×Bytes} (h:zcO k n u=some p):p.1.length=n∧p.2.length≤u.length:=by
 unfold zcO at h
 split at h
 ·split at h
  ·cases h;simp;omega
  ·cases h
 ·split at h
  ·cases u with
   |nil=>cases h
   |cons x w=>simp only at h;cases h;simp
  ·split at h
   ·unfold zb0 at h
    split at h
    ·rename_i hok
     cases ht:zas (u.drop (atN u)) false 1048576 with
     |none=>rw [ht] at h;cases h
     |some q=>
      rw [ht] at h
      simp only [Option.bind_some] at h
      cases hd:zdB (zaW u (hdN u)) q.1 n with
      |none=>rw [hd] at h;cases h
      |some d=>
       rw [hd] at h
       cases h
       have:=zby ht
       simp at this
       exact ⟨(zoR hok.2.2.1 hd).2,by simp;omega⟩
    ·cases h
   ·cases h
theorem ziJ {s:Bytes} {m:Nat} {p:Bytes×Bytes} (h:zcy s m=some p):p.1.length≤m∧p.1.length≤1048576∧p.2.length≤s.length:=by
 cases s with
 |nil=>cases h
 |cons k t=>
  simp only [zcy] at h
  rw [if_neg (by omega)] at h
  split at h
  ·cases h
  ·rename_i q hq
   obtain ⟨h1,h2⟩:=znt h
   obtain ⟨h3,h4⟩:=zeb hq
   simp only [List.length_cons]
   omega
theorem zky {s:Bytes}:∀(l:List (Nat×Nat×Nat)) (r:Rct) (a:Nat) {y:List Sqt×Nat},ssD s l r a=some y→y.1.length=l.length
 | [],r,a,y,h=>by simp only [ssD] at h;cases h;rfl
 |c::t,r,a,y,h=>by
  simp only [ssD] at h
  cases h1:stD s c r a with
  |none=>rw [h1] at h;cases h
  |some x=>
   rw [h1] at h
   simp only [Option.bind_some] at h
   cases h2:ssD s t x.2.1 x.2.2 with
   |none=>rw [h2] at h;cases h
   |some z=>rw [h2] at h;cases h;simp [zky t _ _ h2]
theorem ziK {s:Bytes} {m:Nat} {p:List Sqt×Bytes} (h:zgA s m=some p):p.1.length≤1000:=by
 rw [zeQ] at h
 cases h1:zao s false (min m 1000) with
 |none=>rw [h1] at h;cases h
 |some q=>
  rw [h1] at h
  simp only [Option.bind_some] at h
  have h2:=(zeb h1).1
  split at h
  ·cases h;simp
  ·simp only [uns] at h
   cases e1:unS q.2 q.1 with
   |none=>rw [e1] at h;cases h
   |some a=>
    rw [e1] at h
    simp only [Option.bind_some] at h
    cases e2:unS a.2 q.1 with
    |none=>rw [e2] at h;cases h
    |some b=>
     rw [e2] at h
     simp only [Option.bind_some] at h
     cases e3:unS b.2 q.1 with
     |none=>rw [e3] at h;cases h
     |some c=>
      rw [e3] at h
      simp only [Option.bind_some,Option.map_some,z3l,sqT] at h
      cases e4:zas c.2 false 4096 with
      |none=>rw [e4] at h;cases h
      |some t=>
       rw [e4] at h
       simp only [Option.bind_some] at h
       cases e5:ssD t.1 (z3 a.1 b.1 c.1) rc0 0 with
       |none=>rw [e5] at h;cases h
       |some y=>
        rw [e5] at h
        simp only [Option.bind_some] at h
        split at h
        ·cases h
         have:=zky _ _ _ e5
         rw [z3_len (zeR e1).1 (zeR e2).1 (zeR e3).1] at this
         simp only;omega
        ·cases h
section
variable {H:Heap} {b:Nat} {s:Bytes}
theorem zqQ (h:Rd H b s false) (hs:s.length≤100000) (dict:Bytes) (hd:dict.length≤100000) (size:Nat) (hz:size≤1000000):Wf S 85 [.pointer (some ⟨b,0,none⟩),.string (ofL dict),.int .i64 size] H fun v H'=>XB v (mdP s dict size)∧((mdP s dict size).isSome→Kq b H H'):=by
 refine w85 rfl rfl _ _ _ ?_
 have hblt:=h.lt
 simp [s85]
 refine (zlm h hs size).mono ?_
 intro v H1 hv
 unfold mdP
 cases hl:zcy s size with
 |none=>
  rw [hl] at hv
  obtain rfl:=hv
  simp [tup,XB,zam]
  exact ⟨[],rfl⟩
 |some l=>
  rw [hl] at hv
  obtain ⟨rfl,hr1,hk1⟩:=hv
  have hk1:Kq b H H1:=hk1
  have hll:=ziJ hl
  simp
  refine (zln hr1 (by omega) size (by omega)).mono ?_
  rintro v H2 ⟨hk2,hv⟩
  cases hq:zgA l.2 size with
  |none=>
   rw [hq] at hv
   obtain ⟨x,rfl⟩:=hv
   simp [tup,XB,zam]
   exact ⟨[],rfl⟩
  |some q=>
   rw [hq] at hv
   obtain ⟨w,rfl,hA,hr2⟩:=hv
   simp
   refine (zgu hr2).mono ?_
   rintro v H3 ⟨h3,rfl⟩
   rw [h3]
   by_cases hq2:q.2= []
   ·have hql:q.1.length≤1000000:=by have:=ziK hq;omega
    simp [hq2]
    refine (zrN dict l.1 q.1 hA (Nat.le_refl _) size (by omega) hz (by omega) hql).mono ?_
    rintro v H4 ⟨hk4,hv⟩
    cases he:exF dict.length size dict l.1 q.1 with
    |none=>
     rw [he] at hv
     obtain ⟨er,her,rfl⟩:=hv
     simp [her,tup,XB]
     exact ⟨[],rfl⟩
    |some o=>
     rw [he] at hv
     obtain rfl:=hv
     simp [zal]
     by_cases hol:o.length=size
     ·simp [hol,tup,XB]
      exact (hk1.trans hk2).trans (Kq.of hk4)
     ·have hol':¬(o.length:Int)=size:=by omega
      simp [hol,hol',tup,XB]
      exact ⟨o,rfl⟩
   ·simp [hq2,tup,XB,zam]
    exact ⟨[],rfl⟩
noncomputable def ctP (k:Nat) (s dict:Bytes) (size:Nat):Option Bytes:=
 if k=0 then if s.length=size then some s else none
 else if k=1 then match s with| [x]=>some (List.replicate size x)|_=>none
 else mdP s dict size
theorem zqR (n:Nat) (hn:n≤1000000000):Wf S 84 [.string (ofL []),.int .i64 n] H fun v H'=>v= .string (ofL [])∧H'=H:=by
 refine zhe zim ⟨_,_,?_,rfl,rfl⟩
 have hz:(ofL []).size=0:=rfl
 have hd:(ofL []).data.toList= []:=rfl
 have hr:∀n,Lib.repeatL ([]:List UInt8) n= []:=by
  intro n
  induction n with
  |zero=>rfl
  |succ n ih=>simp only [Lib.repeatL,ih];rfl
 simp only [zgd,hz,hd,Int.toNat_natCast,hr]
 rw [if_pos (by omega)]
 rfl
theorem zlo (h:Rd H b s false) (hs:s.length≤100000) (hd:Hdt) (dict:Bytes) (hdl:dict.length≤100000) (hz:hd.size≤1000000) (hk:hd.kind≤2):Wf S 54 [.pointer (some ⟨b,0,none⟩),hdO hd,.string (ofL dict)] H fun v H'=>XB v (ctP hd.kind s dict hd.size)∧((ctP hd.kind s dict hd.size).isSome→Kq b H H'):=by
 refine w54 rfl rfl _ _ _ ?_
 have hblt:=h.lt
 have hO:hdO hd= .agg #[.int .i64 hd.kind,.int .i64 hd.epoch,.int .i64 hd.size,.int .u64 hd.sum]:=rfl
 have g4:(H.push (.cells (hdL hd) 79 true)).get H.next= .cells (hdL hd) 79 true:=zaf
 have hr1:Rd (H.push (.cells (hdL hd) 79 true)) b s false:=by unfold Rd;rw [zae hblt];exact h
 have hk1:Kq b H (H.push (.cells (hdL hd) 79 true)):=Kq.of (Kp.push (Nat.le_refl _))
 unfold hdL at g4 hr1 hk1
 obtain ⟨H1,hH1⟩:∃H1,H1=H.push (.cells [.int .i64 hd.kind,.int .i64 hd.epoch,.int .i64 hd.size,.int .u64 hd.sum] 79 true):=⟨_,rfl⟩
 rw [←hH1] at g4 hr1 hk1
 simp [-zbq,s54,hO,zay,cellsL,zac,←hH1]
 obtain ⟨K,hK⟩:∃K,K=hd.kind:=⟨_,rfl⟩
 obtain ⟨Z,hZ⟩:∃Z,Z=hd.size:=⟨_,rfl⟩
 rw [←hK,←hZ] at g4⊢
 rw [←hK] at hk
 rw [←hZ] at hz
 unfold ctP
 by_cases k0:K=0
 ·rw [if_pos k0]
  simp [g4,k0,zac]
  refine (zde hr1 Z).mono ?_
  rintro v H2 ⟨rfl,rfl⟩
  rw [Int.toNat_natCast]
  have hr2:Rd (H1.put b (RdB (zaE s false Z) (zax s false Z))) b (zaE s false Z) (zax s false Z):=zaZ hr1.lt
  have hk2:Kq b H (H1.put b (RdB (zaE s false Z) (zax s false Z))):=hk1.trans Kq.put
  try simp
  refine (zgu hr2).mono ?_
  rintro v H3 ⟨rfl,rfl⟩
  by_cases hsz:s.length=Z
  ·have e1:¬s.length< Z:=by omega
   have e2:zaE s false Z= []:=by unfold zaE;rw [if_neg (by simp;omega)];exact List.drop_eq_nil_of_le (by omega)
   have e3:zar s false Z=s:=by unfold zar;rw [if_neg (by simp;omega)];exact List.take_of_length_le (by omega)
   have e4:zax s false Z=false:=by simp [zax,e1]
   simp [hsz,e2,e3,e4,tup,XB]
   rw [e2,e4] at hk2;exact hk2
  ·have e5:(!zax s false Z && decide (zaE s false Z= []))=false:=by
    by_cases e1:s.length< Z
    ·simp [zax,e1]
    ·simp [zax,zaE,e1];omega
   simp [hsz,e5,tup,XB]
   exact ⟨_,rfl⟩
 rw [if_neg k0]
 have k0':¬(K:Int)=0:=by omega
 by_cases k1:K=1
 ·rw [if_pos k1]
  simp [g4,k0,k0',k1,zac]
  refine (zde hr1 1).mono ?_
  rintro v H2 ⟨rfl,rfl⟩
  rw [show (1:Int).toNat=1 from rfl]
  have hr2:Rd (H1.put b (RdB (zaE s false 1) (zax s false 1))) b (zaE s false 1) (zax s false 1):=zaZ hr1.lt
  have hk2:Kq b H (H1.put b (RdB (zaE s false 1) (zax s false 1))):=hk1.trans Kq.put
  have g42:(H1.put b (RdB (zaE s false 1) (zax s false 1))).get H.next= .cells [.int .i64 K,.int .i64 hd.epoch,.int .i64 Z,.int .u64 hd.sum] 79 true:=by rw [zaa (by omega)];exact g4
  obtain ⟨H2,hH2⟩:∃H2,H2=H1.put b (RdB (zaE s false 1) (zax s false 1)):=⟨_,rfl⟩
  rw [←hH2] at hr2 hk2 g42⊢
  simp [g42,zac]
  cases s with
  |nil=>
   have e3:zar [] false 1= []:=rfl
   have e4:zax [] false 1=true:=rfl
   rw [e3]
   rw [e4] at hr2
   refine (zqR Z (by omega)).mono ?_
   rintro v H3 ⟨rfl,rfl⟩
   try simp
   refine (zgu hr2).mono ?_
   rintro v H3 ⟨rfl,rfl⟩
   simp [tup,XB]
   exact ⟨_,rfl⟩
  |cons x u=>
   have e2:zaE (x::u) false 1=u:=by simp [zaE]
   have e3:zar (x::u) false 1= [x]:=by simp [zar]
   have e4:zax (x::u) false 1=false:=by simp [zax]
   rw [e3]
   rw [e4,e2] at hr2
   refine (zpm x Z (by omega)).mono ?_
   rintro v H3 ⟨rfl,h3⟩
   rw [h3]
   try simp
   refine (zgu hr2).mono ?_
   rintro v H3 ⟨rfl,rfl⟩
   cases u with
   |nil=>
    simp [tup,XB]
    exact hk2
   |cons y w=>
    simp [tup,XB]
    exact ⟨_,rfl⟩
 ·rw [if_neg k1]
  have k1':¬(K:Int)=1:=by omega
  simp [g4,k0,k0',k1,k1',zac]
  refine (zqQ hr1 hs dict hdl Z hz).mono ?_
  rintro v H2 ⟨hv,hkm⟩
  cases hm:mdP s dict Z with
  |none=>
   rw [hm] at hv
   obtain ⟨x,rfl⟩:=hv
   simp [tup,XB]
   exact ⟨x,rfl⟩
  |some o=>
   rw [hm] at hv hkm
   obtain rfl:=hv
   simp [tup,XB]
   exact hk1.trans (hkm rfl)
end
noncomputable def dcP (s dict:Bytes) (lim:Int):Nat×Bytes:=match hdP s with
 |none=>(3,[])
 |some p=>if lim< p.1.size∨512< p.1.size then (5,[]) else match ctP p.1.kind p.2 dict p.1.size with
  |none=>(3,[])
  |some b=>if zht b=p.1.sum then (0,b) else (4,[])
theorem ziL {s:Bytes} {p:Hdt×Bytes} (h:hdP s=some p):p.1.kind≤2∧p.2.length≤s.length∧p.1.epoch≤1073741824∧p.1.size≤1099511627776∧p.1.sum< 18446744073709551616:=by
 cases s with
 |nil=>cases h
 |cons k u=>
  simp only [hdP] at h
  split at h
  ·cases h
  ·rename_i hk
   cases h1:zao u false 1073741824 with
   |none=>rw [h1] at h;cases h
   |some e=>
    rw [h1] at h
    simp only [Option.bind_some] at h
    cases h2:zao e.2 false 1099511627776 with
    |none=>rw [h2] at h;cases h
    |some n=>
     rw [h2] at h
     simp only [Option.bind_some] at h
     split at h
     ·cases h
     ·rename_i h8
      cases h
      obtain ⟨a1,a2⟩:=zeb h1
      obtain ⟨a3,a4⟩:=zeb h2
      have hf:=zfJ (n.2.take 8)
      rw [List.length_take,Nat.min_eq_left (by omega)] at hf
      refine ⟨by simp only;omega,by simp;omega,a1,a3,hf⟩
theorem zkz {k:Nat} {s dict b:Bytes} {size:Nat} (h:ctP k s dict size=some b):b.length=size:=by
 unfold ctP at h
 split at h
 ·split at h
  ·rename_i h1;cases h;exact h1
  ·cases h
 ·split at h
  ·match s,h with
   | [x],h=>simp only at h;cases h;simp
  ·unfold mdP at h
   cases h1:zcy s size with
   |none=>rw [h1] at h;cases h
   |some l=>
    rw [h1] at h
    simp only [Option.bind_some] at h
    cases h2:zgA l.2 size with
    |none=>rw [h2] at h;cases h
    |some q=>
     rw [h2] at h
     simp only [Option.bind_some] at h
     split at h
     ·cases h3:exF dict.length size dict l.1 q.1 with
      |none=>rw [h3] at h;cases h
      |some o=>
       rw [h3] at h
       simp only [Option.bind_some] at h
       split at h
       ·rename_i h4;cases h;exact h4
       ·cases h
     ·cases h
section
variable {H:Heap}
theorem zlp (s dict:Bytes) (hs:s.length≤100000) (hd:dict.length≤100000) (lim:Int):Wf S 16 [.string (ofL s),.string (ofL dict),.int .i64 lim] H fun v H'=>v= .tuple #[.string (ofL (dcP s dict lim).2),.int .i64 ((dcP s dict lim).1:Nat)]∧((dcP s dict lim).1=0→Kp H.next H H'):=by
 refine w16 rfl rfl _ _ _ ?_
 simp [s16]
 refine (zgf s).mono ?_
 rintro v H1 ⟨rfl,rfl⟩
 have hr1:Rd (H.push (RdB s false)) H.next s false:=zaf
 have hk1:Kp H.next H (H.push (RdB s false)):=Kp.push (Nat.le_refl _)
 have hn1:(H.push (RdB s false)).next=H.next+1:=by simp
 obtain ⟨H1,hH1⟩:∃H1,H1=H.push (RdB s false):=⟨_,rfl⟩
 rw [←hH1] at hr1 hk1 hn1⊢
 try simp
 refine (zns hr1).mono ?_
 rintro v H2 ⟨hk2,hv⟩
 have kk:∀{HX:Heap},Kq H.next H1 HX→Kp H.next H HX:=fun h=>⟨by have:=h.1;omega,fun k hk=>by rw [h.2 k (by omega) (by omega)];exact hk1.2 k hk⟩
 have n2:=hk2.1
 have Z4:(H2.push (.cells [.int .i64 0,.int .i64 0,.int .i64 0,.int .u64 0] 79 true)).get H2.next= .cells [.int .i64 0,.int .i64 0,.int .i64 0,.int .u64 0] 79 true:=zaf
 obtain ⟨H3,hH3⟩:∃H3,H3=H2.push (.cells [.int .i64 0,.int .i64 0,.int .i64 0,.int .u64 0] 79 true):=⟨_,rfl⟩
 have n3:H3.next=H2.next+1:=by rw [hH3];simp
 rw [←hH3] at Z4
 unfold dcP
 cases hh:hdP s with
 |none=>
  rw [hh] at hv
  obtain rfl:=hv
  simp [hdO,hdL,←hH3,zaT,Z4,wr,tup,zam]
 |some p=>
  rw [hh] at hv
  obtain ⟨rfl,hr2⟩:=hv
  obtain ⟨hkd,htl,hep,hsz,hsm⟩:=ziL hh
  obtain ⟨hd0,t⟩:=p
  obtain ⟨K,E,Z,Sm⟩:=hd0
  simp only at hkd htl hep hsz hsm hr2⊢
  obtain ⟨H4,hH4⟩:∃H4,H4=H3.put H2.next (.cells [.int .i64 K,.int .i64 E,.int .i64 Z,.int .u64 Sm] 79 true):=⟨_,rfl⟩
  have z4:H4.get H2.next= .cells [.int .i64 K,.int .i64 E,.int .i64 Z,.int .u64 Sm] 79 true:=by rw [hH4];exact zad (by omega)
  have n4:H4.next=H3.next:=by rw [hH4];exact next_put
  have old4:∀k,k< H2.next→H4.get k=H2.get k:=fun k hk=>by rw [hH4,zaa (by omega),hH3,zae hk]
  have hr4:Rd H4 H.next t false:=by unfold Rd;rw [old4 _ (by omega)];exact hr2
  have hk4:Kq H.next H1 H4:=⟨by omega,fun k hk hkb=>by rw [old4 k (by omega)];exact hk2.2 k hk hkb⟩
  simp [hdO,hdL,←hH3,zaT,Z4,wr,←hH4,zac,z4]
  by_cases c1:lim< Z
  ·have c1':lim< Z∨512< Z:= .inl c1
   rw [if_pos c1']
   simp [c1,tup,zam]
  by_cases c2:512< Z
  ·have c1':lim< Z∨512< Z:= .inr c2
   have c2':(512:Int)< Z:=by omega
   rw [if_pos c1']
   simp [c1,z4,c2,c2',zac,tup,zam]
  have c1':¬(lim< Z∨512< Z):=fun h=>h.elim c1 c2
  have c2':¬(512:Int)< Z:=by omega
  rw [if_neg c1']
  simp [c1,c2,c2',z4,zac,zaL,rd]
  have hc:=zlo hr4 (by omega) ⟨K,E,Z,Sm⟩ dict hd (by simp only;omega) hkd
  unfold hdO hdL at hc
  refine hc.mono ?_
  rintro v H5 ⟨hv,hkm⟩
  simp only at hv hkm
  cases hct:ctP K t dict Z with
  |none=>
   rw [hct] at hv
   obtain ⟨x,rfl⟩:=hv
   simp [tup,zam]
  |some o=>
   rw [hct] at hv hkm
   obtain rfl:=hv
   have hol:=zkz hct
   have hk5:=hkm rfl
   have z5:H5.get H2.next= .cells [.int .i64 K,.int .i64 E,.int .i64 Z,.int .u64 Sm] 79 true:=by rw [hk5.2 _ (by omega) (by omega)];exact z4
   simp [z5,zac]
   refine (zov o (by omega)).mono ?_
   rintro v H6 ⟨hk6,rfl⟩
   have n5:=hk5.1
   have z6:H6.get H2.next= .cells [.int .i64 K,.int .i64 E,.int .i64 Z,.int .u64 Sm] 79 true:=by rw [hk6.2 _ (by omega)];exact z5
   simp [kop,Env.ev,z6,zgt]
   by_cases hs2:zht o=Sm
   ·simp [hs2,tup]
    exact (kk (hk4.trans hk5)).trans (hk6.mono (by omega))
   ·have hs2':¬(zht o:Int)=Sm:=by omega
    simp [hs2,hs2',tup,zam]
theorem znu (s:Bytes):Wf S 20 [.string (ofL s)] H fun v H'=>v= .tuple #[.int .i64 (match hdP s with|some p=>(p.1.epoch:Int)|none=>0),.int .i64 (if (hdP s).isSome then 0 else 3)]∧Kp H.next H H':=by
 refine w20 rfl rfl _ ?_
 simp [s20]
 refine (zgf s).mono ?_
 rintro v H1 ⟨rfl,rfl⟩
 have hr1:Rd (H.push (RdB s false)) H.next s false:=zaf
 try simp
 refine (zns hr1).mono ?_
 rintro v H2 ⟨hk2,hv⟩
 have Z4:(H2.push (.cells [.int .i64 0,.int .i64 0,.int .i64 0,.int .u64 0] 79 true)).get H2.next= .cells [.int .i64 0,.int .i64 0,.int .i64 0,.int .u64 0] 79 true:=zaf
 obtain ⟨H3,hH3⟩:∃H3,H3=H2.push (.cells [.int .i64 0,.int .i64 0,.int .i64 0,.int .u64 0] 79 true):=⟨_,rfl⟩
 have n3:H3.next=H2.next+1:=by rw [hH3];simp
 rw [←hH3] at Z4
 have hput:∀cs:List Value,(H3.put H2.next (.cells cs 79 true)).get H2.next= .cells cs 79 true:=fun cs=>zad (by omega)
 have kp2:Kp H.next H H2:=⟨by have:=hk2.1;simp at this;omega,fun k hk=>by rw [hk2.2 k (by simp;omega) (by omega),zae hk]⟩
 have kp3:∀x,Kp H.next H (H3.put H2.next x):=fun x=>(kp2.trans (by rw [hH3];exact Kp.push kp2.1)).trans (Kp.put kp2.1)
 cases hh:hdP s with
 |none=>
  rw [hh] at hv
  obtain rfl:=hv
  simp [hdO,hdL,←hH3,zaT,Z4,wr,hput,zac,tup]
  exact kp3 _
 |some p=>
  rw [hh] at hv
  obtain ⟨rfl,hr2⟩:=hv
  simp [hdO,hdL,←hH3,zaT,Z4,wr,hput,zac,tup]
  exact kp3 _
end
def encS (g:Bytes):Value:= .string (ofL g)
def strs (l:List Bytes):List Value:=l.map encS
theorem ziM (l m:List Bytes):strs (l++m)=strs l++strs m:=by simp [strs]
theorem znv {l:List Bytes} {i:Nat} {x:Bytes} (h:l[i]? =some x):(strs l)[i]? =some (.string (ofL x)):=by simp [strs,h,encS]
def Sv (H:Heap) (a:Option Addr) (l:List Bytes):Prop:=0< l.length→∃b o cs rw,a=some ⟨b,o,none⟩∧H.get b= .cells cs 9 rw∧∀(i:Nat) x,l[i]? =some x→cs[o+i]? =some (.string (ofL x))
theorem Sv.kp {H H':Heap} {a:Option Addr} {l:List Bytes} (h:Sv H a l) (hk:Kp H.next H H'):Sv H' a l:=fun hp=>by
 obtain ⟨b,o,cs,rw',h1,h2,h3⟩:=h hp
 exact ⟨b,o,cs,rw',h1,by rw [hk.2 b (zai h2)];exact h2,h3⟩
theorem Acc.sv {N M n:Nat} {H:Heap} {v:Value} {l:List Bytes} (h:Acc 9 1 N M H v n (strs l)) (hn:n=l.length):∃a c,v= .slice a l.length c∧Sv H a l:=by
 obtain ⟨a,c,rfl,hg⟩:=h.len
 refine ⟨a,c,by rw [hn],fun hp=>?_⟩
 obtain ⟨b,rfl,hb⟩:=hg (by omega)
 exact ⟨b,0,strs l,true,rfl,hb,fun i x hx=>by rw [Nat.zero_add];exact znv hx⟩
def SIs (H:Heap) (v:Value) (l:List Bytes):Prop:=(v= .slice none 0 0∧l= [])∨∃b o c cs rw,v= .slice (some ⟨b,o,none⟩) l.length c∧(c=zat∨l.length≤c)∧H.get b= .cells cs 9 rw∧∀(i:Nat) x,l[i]? =some x→cs[o+i]? =some (.string (ofL x))
theorem SIs.sv {H:Heap} {v:Value} {l:List Bytes} (h:SIs H v l):∃a c,v= .slice a l.length c∧Sv H a l:=by
 rcases h with ⟨rfl,rfl⟩|⟨b,o,c,cs,rw',rfl,hc,hg,hx⟩
 ·exact ⟨none,0,rfl,fun hp=>by simp at hp⟩
 ·exact ⟨_,_,rfl,fun _=>⟨b,o,cs,rw',rfl,hg,hx⟩⟩
theorem SIs.kp {H H':Heap} {v:Value} {l:List Bytes} (h:SIs H v l) (hk:Kp H.next H H'):SIs H' v l:=by
 rcases h with h|⟨b,o,c,cs,rw',h1,hc,hg,hx⟩
 ·exact .inl h
 ·exact .inr ⟨b,o,c,cs,rw',h1,hc,by rw [hk.2 b (zai hg)];exact hg,hx⟩
section
variable {H:Heap}
structure SaI (HB:Heap) (v0 v1:Value) (l m:List Bytes) (d:Nat) (e:Fe) (H:Heap) (i:Nat):Prop where
 hd:d=l.length - i
 hi:i≤l.length
 hH:H=HB
 eq:l.take i=m.take i
 e0:e 0=v0
 e1:e 1=v1
 e12:e 12= .int .i64 l.length
 e13:e 13= .int .i64 i
end
theorem znw {S:Sys} {H:Heap} {K:Kv} {b o n c:Nat} {cs:List Value} {t:TypeId} {rw:Bool} {i j:Nat} (hc:c=zat∨n≤c) (hg:H.get b= .cells cs t rw) (hij:i≤j) (hj:j≤n):
  run S (.slc t 1 (.c (.slice (some ⟨b,o,none⟩) n c)) (some (.c (.int .i64 i))) (some (.c (.int .i64 j)))) [] H K=K (.slice (some ⟨b,if c≠zat∧i=c then o else o+i,none⟩) (j - i) (if c=zat then zat else c - i)) H:=by
 show oT ((zeg H t 1 (.slice (some ⟨b,o,none⟩) n c) (i:Int) (some (j:Int))).map (·,H)) K=_
 simp only [zeg,hg,if_true,Option.getD_some,zac]
 have h2':((j:Int) - i).toNat=j - i:=by omega
 by_cases h:c=zat
 ·subst h
  have h1:(0:Int)≤i∧(i:Int)≤j∧(j:Int)≤n:=by omega
  rw [if_pos rfl,if_pos h1]
  simp [h2']
 ·have h2:n≤c:=hc.resolve_left h
  have h3:(0:Int)≤i∧(i:Int)≤j∧(j:Int)≤c:=by omega
  rw [if_neg h,if_pos h3]
  by_cases h4:i=c
  ·simp [h,h2',h4]
  ·simp [h,h2',h4]
def zb6 (H:Heap) (v:Value) (s:Bytes) (a k:Nat):Prop:=a+k≤8*s.length∧((v= .slice none 0 0∧k=0)∨∃b o c cs rw,v= .slice (some ⟨b,o,none⟩) k c∧(c=zat∨k≤c)∧H.get b= .cells cs 3 rw∧∀i,i< k→cs[o+i]? =some (.int .i64 (za1 s (a+i):Nat)))
theorem zb6.kp {H H':Heap} {v:Value} {s:Bytes} {a k:Nat} (h:zb6 H v s a k) (hk:Kp H.next H H'):zb6 H' v s a k:=by
 obtain ⟨h0,h⟩:=h
 rcases h with h|⟨b,o,c,cs,rw,h1,h2,h3,h4⟩
 ·exact ⟨h0,.inl h⟩
 ·exact ⟨h0,.inr ⟨b,o,c,cs,rw,h1,h2,(hk.2 b (zai h3)).trans h3,h4⟩⟩
theorem zb6.len {H:Heap} {v:Value} {s:Bytes} {a k:Nat} (h:zb6 H v s a k):∃aa c,v= .slice aa k c:=by
 obtain ⟨h0,h⟩:=h
 rcases h with ⟨rfl,rfl⟩|⟨b,o,c,cs,rw,h1,h2,h3,h4⟩
 ·exact ⟨_,_,rfl⟩
 ·exact ⟨_,_,h1⟩
theorem zb6.ld {H:Heap} {v:Value} {s:Bytes} {a k:Nat} (h:zb6 H v s a k) {i:Nat} (hi:i< k):∃b o c,v= .slice (some ⟨b,o,none⟩) k c∧kLd H (.pointer (some ⟨b,o+i,none⟩))=some (.int .i64 (za1 s (a+i):Nat)):=by
 obtain ⟨h0,h⟩:=h
 rcases h with ⟨rfl,rfl⟩|⟨b,o,c,cs,rw,rfl,h2,h3,h4⟩
 ·omega
 ·refine ⟨b,o,c,rfl,?_⟩
  rw [zbq]
  simp only [h3,h4 i hi]
theorem zb6.cut {S:Sys} {H:Heap} {v:Value} {s:Bytes} {a k:Nat} (h:zb6 H v s a k) {i j:Nat} (hij:i≤j) (hj:j≤k):∃v',zb6 H v' s (a+i) (j - i)∧∀(H':Heap),Kp H.next H H'→∀K:Kv,run S (.slc 3 1 (.c v) (some (.c (.int .i64 i))) (some (.c (.int .i64 j)))) [] H' K=K v' H':=by
 obtain ⟨h0,h⟩:=h
 rcases h with ⟨rfl,rfl⟩|⟨b,o,c,cs,rw,rfl,h2,h3,h4⟩
 ·have e1:i=0:=by omega
  have e2:j=0:=by omega
  subst e1 e2
  exact ⟨.slice none 0 0,⟨by omega,.inl ⟨rfl,rfl⟩⟩,fun _ _ K=>rfl⟩
 ·refine ⟨_,⟨by omega,.inr ⟨b,_,_,cs,rw,rfl,?_,h3,fun x hx=>?_⟩⟩,fun H' hk K=>znw h2 ((hk.2 b (zai h3)).trans h3) hij hj⟩
  ·by_cases hc:c=zat
   ·exact .inl (if_pos hc)
   ·rw [if_neg hc];right
    have:=h2.resolve_left hc
    omega
  ·have e:¬(c≠zat∧i=c):=by
    rintro ⟨q1,q2⟩
    have:=h2.resolve_left q1
    omega
   rw [if_neg e,Nat.add_assoc,Nat.add_assoc]
   exact h4 (i+x) (by omega)
theorem zb6.from {S:Sys} {H:Heap} {v:Value} {s:Bytes} {a k:Nat} (h:zb6 H v s a k) {i:Nat} (hi:i≤k):∃v',zb6 H v' s (a+i) (k - i)∧∀(H':Heap),Kp H.next H H'→∀K:Kv,run S (.slc 3 1 (.c v) (some (.c (.int .i64 i))) none) [] H' K=K v' H':=by
 obtain ⟨h0,h⟩:=h
 rcases h with ⟨rfl,rfl⟩|⟨b,o,c,cs,rw,rfl,h2,h3,h4⟩
 ·have e1:i=0:=by omega
  subst e1
  exact ⟨.slice none 0 0,⟨by omega,.inl ⟨rfl,rfl⟩⟩,fun _ _ K=>rfl⟩
 ·refine ⟨_,⟨by omega,.inr ⟨b,_,_,cs,rw,rfl,?_,h3,fun x hx=>?_⟩⟩,fun H' hk K=>zcL h2 ((hk.2 b (zai h3)).trans h3) hi⟩
  ·by_cases hc:c=zat
   ·exact .inl (if_pos hc)
   ·rw [if_neg hc];right
    have:=h2.resolve_left hc
    omega
  ·have e:¬(c≠zat∧i=c):=by
    rintro ⟨q1,q2⟩
    have:=h2.resolve_left q1
    omega
   rw [if_neg e,Nat.add_assoc,Nat.add_assoc]
   exact h4 (i+x) (by omega)
theorem zb6.upto {S:Sys} {H:Heap} {v:Value} {s:Bytes} {a k:Nat} (h:zb6 H v s a k) {j:Nat} (hj:j≤k):∃v',zb6 H v' s a j∧∀(H':Heap),Kp H.next H H'→∀K:Kv,run S (.slc 3 1 (.c v) none (some (.c (.int .i64 j)))) [] H' K=K v' H':=by
 obtain ⟨h0,h⟩:=h
 rcases h with ⟨rfl,rfl⟩|⟨b,o,c,cs,rw,rfl,h2,h3,h4⟩
 ·have e1:j=0:=by omega
  subst e1
  exact ⟨.slice none 0 0,⟨by omega,.inl ⟨rfl,rfl⟩⟩,fun _ _ K=>rfl⟩
 ·refine ⟨_,⟨by omega,.inr ⟨b,_,_,cs,rw,rfl,?_,h3,fun x hx=>h4 x (by omega)⟩⟩,fun H' hk K=>zeL h2 ((hk.2 b (zai h3)).trans h3) hj⟩
  by_cases hc:c=zat
  ·exact .inl (if_pos hc)
  ·rw [if_neg hc];right
   have:=h2.resolve_left hc
   omega
theorem Acc.bitS {N M:Nat} {H:Heap} {v:Value} {s:Bytes} (h:Acc 3 1 N M H v (8*s.length) (ivs (zbu s))):zb6 H v s 0 (8*s.length):=by
 refine ⟨by omega,?_⟩
 rcases h with ⟨h1,h2,h3⟩|⟨b,c,h1,h2,h3,h4,h5,h6⟩
 ·exact .inl ⟨h3,h1⟩
 ·refine .inr ⟨b,0,c,_,_,h3,by omega,h5,fun i hi=>?_⟩
  simp only [ivs,List.getElem?_map,Nat.zero_add]
  rw [zdP s i hi];rfl
theorem znx (s:Bytes) (a n:Nat):zav s a (n+1)=za1 s a+2*zav s (a+1) n:=by
 have h:=zce s a 1 n
 rw [Nat.add_comm 1 n] at h
 have h1:zav s a 1=za1 s a:=by simp [zav]
 rw [h,h1]
 omega
section
variable {H:Heap} {s:Bytes}
theorem zcP {v:Value} {a k:Nat} (h:zb6 H v s a k) (hk:k≤31):Wf S 133 [v] H fun r H'=>H'=H∧r= .int .u32 (zav s a k):=by
 refine w133 rfl rfl _ ?_
 obtain ⟨aa,c,hv⟩:=h.len
 have hlen:∀K:Kv,run S (.lenL (.c v)) [] H K=K (.int .i64 k) H:=fun K=>by rw [hv];simp
 have w0:IntKind.i64.wrap ((k:Int) - 1)=(k:Int) - 1:=wi (by omega) (by omega)
 simp [s133,hlen,w0]
 refine l133_0 S (fun d e H'=>∃i:Nat,i≤k∧d=i∧H'=H∧e 0=v∧e 3= .int .u32 (zav s (a+i) (k - i))∧e 4= .int .i64 ((i:Int) - 1)) k ⟨k,by omega,rfl,rfl,by simp,by simp [zav],by simp⟩ ?_
 rintro d e H' ⟨i,hi,hdi,rfl,e0,e3,e4⟩
 cases i with
 |zero=>
  have e4':e 4= .int .i64 (-1):=by rw [e4];rfl
  simp [s133_0,e3,e4']
 |succ i=>
  have e4':e 4= .int .i64 (i:Int):=by rw [e4];congr 1;omega
  obtain ⟨b,o,c2,rfl,hld⟩:=h.ld (i:=i) (by omega)
  have hge:(0:Int)≤i:=by omega
  have hik:(i:Int)< k:=by omega
  have hik':i< k:=by omega
  have hb1:=zcd s (a+i)
  have hnl:=za6 s (a+(i+1)) (k - (i+1))
  have hstep:=znx s (a+i) (k - (i+1))
  rw [show k - (i+1)+1=k - i by omega,show a+i+1=a+(i+1) by omega] at hstep
  have hnl2:=za6 s (a+i) (k - i)
  have hp:2 ^ (k - i)≤2 ^ 31:=Nat.pow_le_pow_right (by omega) (by omega)
  have hp2:(2:Nat) ^ 31=2147483648:=by decide
  obtain ⟨V,hV⟩:∃V,V=zav s (a+(i+1)) (k - (i+1)):=⟨_,rfl⟩
  rw [←hV] at e3 hstep hnl
  obtain ⟨B,hB⟩:∃B,B=za1 s (a+i):=⟨_,rfl⟩
  rw [←hB] at hld hb1 hstep
  have w1:IntKind.u32.wrap ((V:Int)*2)=((V*2:Nat):Int):=by rw [wu32 (by omega) (by omega)];omega
  have w2:IntKind.u32.wrap (B:Int)=B:=wu32 (by omega) (by omega)
  have w3:IntKind.u32.wrap (((V*2:Nat):Int)+B)=((zav s (a+i) (k - i):Nat):Int):=by rw [wu32 (by omega) (by omega)];omega
  have w4:IntKind.i64.wrap ((i:Int) - 1)=(i:Int) - 1:=wi (by omega) (by omega)
  obtain ⟨W,hW⟩:∃W,W=V*2:=⟨_,rfl⟩
  rw [←hW] at w1 w3
  simp [s133_0,e0,e3,e4',hge,hik,hik',zac,hld,w1,w2,w3,w4]
  exact ⟨i,by omega,i,by omega,rfl,rfl,rfl⟩
theorem zgv {v:Value} {a k:Nat} (h:zb6 H v s a k) (hk:k≤10000000):Wf S 136 [v] H fun r H'=>H'=H∧r= .bool (decide (k< 8∧zav s a k=0)):=by
 refine w136 rfl rfl _ ?_
 obtain ⟨aa,c,hv⟩:=h.len
 have hlen:∀(HX:Heap) (K:Kv),run S (.lenL (.c v)) [] HX K=K (.int .i64 k) HX:=fun HX K=>by rw [hv];simp
 simp [s136]
 refine l136_0 S (fun d e H'=>∃i:Nat,i≤k∧d=k - i∧H'=H∧zav s a i=0∧e 0=v∧e 3= .int .i64 i) k ⟨0,by omega,by omega,rfl,rfl,by simp,by simp⟩ ?_
 rintro d e H' ⟨i,hi,rfl,rfl,hz,e0,e3⟩
 by_cases h3:i< k
 ·have h3':(i:Int)< k:=by omega
  obtain ⟨b,o,c2,rfl,hld⟩:=h.ld (i:=i) h3
  have w1:IntKind.i64.wrap ((i:Int)+1)=(i:Int)+1:=wi (by omega) (by omega)
  obtain ⟨B,hB⟩:∃B,B=za1 s (a+i):=⟨_,rfl⟩
  rw [←hB] at hld
  have hst:zav s a (i+1)=B*2 ^ i:=by simp only [zav,hz,←hB];omega
  by_cases hb0:B=0
  ·simp [s136_0,e0,e3,h3,h3',zac,hld,hb0,w1]
   exact ⟨k - (i+1),by omega,i+1,by omega,rfl,by rw [hst,hb0];simp,by omega⟩
  ·have hb0':¬(B:Int)=0:=by omega
   have hnz:¬zav s a k=0:=by
    intro e
    have h1:=zce s a (i+1) (k - (i+1))
    rw [show i+1+(k - (i+1))=k by omega,e,hst] at h1
    have h2:0< B*2 ^ i:=Nat.mul_pos (by omega) (Nat.two_pow_pos i)
    omega
   simp [s136_0,e0,e3,h3,h3',zac,hld,hb0,hb0',hnz]
 ·have hin:i=k:=by omega
  subst hin
  simp [s136_0,e0,e3,hlen,hz]
  omega
theorem zny (l:Bytes) (hl:l.length=8):Wf S 56 [.string (ofL l)] H fun r H'=>H'=H∧r= .int .u64 (zbW l):=by
 refine w56 rfl rfl _ ?_
 have w7:IntKind.i64.wrap 7=7:=by decide
 simp [s56,zal,hl,w7]
 refine l56_0 S (fun d e H'=>∃i:Nat,i≤8∧d=i∧H'=H∧e 0= .string (ofL l)∧e 3= .int .u64 (zbW (l.drop i))∧e 4= .int .i64 ((i:Int) - 1)) 8 ⟨8,by omega,rfl,rfl,by simp,by simp;rw [List.drop_eq_nil_of_le (by omega)];rfl,by simp⟩ ?_
 rintro d e H' ⟨i,hi,hdi,rfl,e0,e3,e4⟩
 cases i with
 |zero=>
  have e4':e 4= .int .i64 (-1):=by rw [e4];rfl
  simp [s56_0,e3,e4']
 |succ i=>
  have e4':e 4= .int .i64 (i:Int):=by rw [e4];congr 1;omega
  have hge:(0:Int)≤i:=by omega
  obtain ⟨x,hx⟩:∃x,l[i]? =some x:=⟨_,List.getElem?_eq_getElem (by omega)⟩
  obtain ⟨u1,u2⟩:=List.getElem?_eq_some_iff.1 hx
  have hdr:l.drop i=x::l.drop (i+1):=by rw [List.drop_eq_getElem_cons u1,u2]
  have hxl:=x.toNat_lt
  have hat:=fun K=>s_at (S:=S) (e:= []) (K:=K) (H:=H') (k:= .i64) hx
  have hfl:=zfJ (l.drop i)
  rw [List.length_drop,hl] at hfl
  have hp:256 ^ (8 - i)≤256 ^ 8:=Nat.pow_le_pow_right (by omega) (by omega)
  have hp2:(256:Nat) ^ 8=18446744073709551616:=by decide
  rw [hdr] at hfl
  simp only [zbW] at hfl
  obtain ⟨V,hV⟩:∃V,V=zbW (l.drop (i+1)):=⟨_,rfl⟩
  have hfV:zbW (l.drop i)=x.toNat+256*V:=by rw [hdr,hV];rfl
  rw [←hV] at e3 hfl
  have w1:IntKind.u64.wrap ((V:Int)*256)=((V*256:Nat):Int):=by rw [wu64 (by omega) (by omega)];omega
  have w2:IntKind.u64.wrap (x.toNat:Int)=x.toNat:=wu64 (by omega) (by omega)
  have w3:IntKind.u64.wrap (((V*256:Nat):Int)+x.toNat)=((zbW (l.drop i):Nat):Int):=by rw [hfV,wu64 (by omega) (by omega)];omega
  have w4:IntKind.i64.wrap ((i:Int) - 1)=(i:Int) - 1:=wi (by omega) (by omega)
  obtain ⟨W,hW⟩:∃W,W=V*256:=⟨_,rfl⟩
  rw [←hW] at w1 w3
  simp [s56_0,e0,e3,e4',hge,hat,bv,w1,w2,w3,w4]
  exact ⟨i,by omega,i,by omega,rfl,rfl,rfl⟩
end
set_option maxHeartbeats 2000000
section
variable {H:Heap}
theorem znz {v:Value} {l:List Int} (h:Is H v l) (hm:l.length≤1000000):Wf S 210 [v] H fun v' H'=>H'=H∧Is H v' (short l):=by
 refine w210 rfl rfl _ ?_
 obtain ⟨a,c,rfl,hiv⟩:=h.iv
 simp [s210]
 refine l210_0 S (fun d e H'=>d≤l.length∧H'=H∧e 0= .slice a l.length c∧e 3= .int .i64 d∧stp l d=zaG l) l.length ⟨by omega,rfl,by simp,by simp,rfl⟩ ?_
 rintro d e H' ⟨hn,rfl,e0,e3,hst⟩
 cases d with
 |zero=>
  have h0:zaG l=0:=by rw [←hst];rfl
  obtain ⟨v',q1,q2⟩:=zgT h
  rw [h0,show ((0:Nat):Int)=0 from rfl] at q2
  simp [s210_0,e0,e3]
  rw [q2]
  exact ⟨rfl,q1⟩
 |succ n=>
  obtain ⟨b,o,cs,rw,rfl,hg,hc⟩:=hiv (by omega)
  obtain ⟨x,hx⟩:∃x,l[n]? =some x:=⟨_,List.getElem?_eq_getElem (by omega)⟩
  have hcx:=hc n x hx
  have hax:=at0_of hx
  have hw:IntKind.i64.wrap ((n:Int)+1 - 1)=n:=by rw [wi (by omega) (by omega)];omega
  have hw2:IntKind.i64.wrap (n:Int)=n:=wi (by omega) (by omega)
  have hp:(0:Int)< (n:Int)+1:=by omega
  have hn1:n< l.length:=by omega
  by_cases g:x=0
  ·subst g
   simp [s210_0,e0,e3,hp,hw,hw2,hn1,zac,hg,hcx]
   refine ⟨n,by omega,by omega,rfl,?_⟩
   rw [←hst];simp [stp,hax]
  ·have h0:zaG l=n+1:=by rw [←hst];simp [stp,hax,g]
   obtain ⟨v',q1,q2⟩:=zgT h
   rw [h0,show ((n+1:Nat):Int)=(n:Int)+1 by omega] at q2
   simp [s210_0,e0,e3,hp,hw,hw2,hn1,zac,hg,hcx,g]
   rw [q2]
   exact ⟨rfl,q1⟩
theorem znA {v:Value} {l:List Int} (h:Is H v l) (hlen:l.length≤256) (hall:∀k,0≤at0 l k∧at0 l k≤11) (hpos:1≤zaG l):Wf S 169 [v] H fun r H'=>r= .string (ofL (zdN l))∧Kp H.next H H':=by
 refine w169 rfl rfl _ ?_
 simp [s169]
 refine (znz h (by omega)).mono ?_
 rintro v' H1 ⟨rfl,his⟩
 have hsl:=zdM l
 have hsle:=ze6 l
 obtain ⟨a,c,rfl,hiv⟩:=his.iv
 have hw1:IntKind.i64.wrap ((short l).length - 1)=((zaG l:Int) - 1):=by rw [hsl];exact wi (by omega) (by omega)
 have hw2:IntKind.u8.wrap ((zaG l:Int) - 1)=(zaG l:Int) - 1:=wrap8 (by omega) (by omega)
 have hsat:∀k,0≤at0 (short l) k∧at0 (short l) k≤11:=fun k=>by
  rcases Nat.lt_or_ge k (zaG l) with hk|hk
  ·rw [short_at hk];exact hall k
  ·rw [zgS hk];omega
 simp [hw1,hw2,zaF,zaR,zay,cellsL,wr]
 have hfirst:Value.int .u8 ((zaG l:Int) - 1)=bv (u8 ((zaG l:Int) - 1)):=zpj (by omega) (by omega)
 rw [hfirst]
 have hone:Acc 5 1 H1.next (H1.next+1) (H1.push (.cells [bv (u8 ((zaG l:Int) - 1))] 5 true)) (.slice (some ⟨H1.next,0,none⟩) 1 1) 1 [bv (u8 ((zaG l:Int) - 1))]:=Acc.one (Nat.le_refl _) rfl
 refine l169_0 S (fun d e H=>TI H1 (.slice a (short l).length c) (short l) (u8 ((zaG l:Int) - 1)) d (e 3) (e 4) (e 5) H) ((zaG l+1) / 2) ⟨0,by omega,by rw [hsl];omega,Kp.push (Nat.le_refl _),by simp,by simp,?_,by simp⟩ ?_
 ·simpa [tabs,bvs] using hone
 rintro d e H ⟨j,hj,rfl,hk,hn,e3,hA,e5⟩
 rw [hsl] at hj
 by_cases h3:2*j< zaG l
 ·obtain ⟨b,o,cs,rw,rfl,hg0,hc⟩:=hiv (by omega)
  have hg:=(hk.2 b (zai hg0)).trans hg0
  obtain ⟨x,hx⟩:∃x,(short l)[2*j]? =some x:=⟨_,List.getElem?_eq_getElem (by omega)⟩
  have hcx:=hc _ x hx
  have hax:=at0_of hx
  have hxb:=hsat (2*j)
  rw [hax] at hxb
  have h3':2*j< (short l).length:=by omega
  have h3'':(2:Int)*j< (short l).length:=by omega
  have h30:(0:Int)≤2*(j:Int):=by omega
  have htn:((2:Int)*(j:Int)).toNat=2*j:=by omega
  have hwi:IntKind.i64.wrap (2*(j:Int)+1)=2*(j:Int)+1:=wi (by omega) (by omega)
  have hwi2:IntKind.i64.wrap (2*(j:Int)+2)=2*(j:Int)+2:=wi (by omega) (by omega)
  have hrest:∀(y:Int),0≤y→y≤11→at0 (short l) (2*j+1)=y→∃v' H',zbk (H.push (.cells [.int .u8 (IntKind.u8.wrap (x+16*y))] 5 true)) 5 1 1 (e 4) 1 [.int .u8 (IntKind.u8.wrap (x+16*y))]=some (v',H')∧TI H1 (.slice (some ⟨b,o,none⟩) (short l).length c) (short l) (u8 ((zaG l:Int) - 1)) ((zaG l+1) / 2 - (j+1)) (.slice (some ⟨b,o,none⟩) (short l).length c) v' (.int .i64 (2*(j:Int)+2)) H':=by
   intro y hy0 hy1 hay
   have hpb:zeM (short l) j=u8 (x+16*y):=by unfold zeM;rw [hax,hay]
   have hwb:IntKind.u8.wrap (x+16*y)=x+16*y:=wrap8 (by omega) (by omega)
   rw [hwb,zpj (by omega) (by omega)]
   obtain ⟨v2,H2,hap,hA2,hn2,hk2⟩:=hA.app (bytes:=1) (new:= [bv (u8 (x+16*y))]) hn (Nat.le_refl _) rfl (by unfold zag;omega)
   refine ⟨v2,H2,hap,j+1,by omega,by omega,⟨by have:=hk.1;omega,fun k hk'=>(hk2 k (by omega) (.inl hk')).trans (hk.2 k hk')⟩,by omega,rfl,?_,by congr 1⟩
   have ht:bvs (u8 ((zaG l:Int) - 1)::tabs (short l) (j+1))=bvs (u8 ((zaG l:Int) - 1)::tabs (short l) j)++ [bv (u8 (x+16*y))]:=by
    rw [zlb,hpb];simp [bvs]
   rw [ht];exact hA2
  by_cases h4:2*j+1< zaG l
  ·obtain ⟨y,hy⟩:∃y,(short l)[2*j+1]? =some y:=⟨_,List.getElem?_eq_getElem (by omega)⟩
   have hcy:=hc _ y hy
   have hay:=at0_of hy
   have hyb:=hsat (2*j+1)
   rw [hay] at hyb
   have h4':(2:Int)*j+1< (short l).length:=by omega
   have h41:(0:Int)≤2*(j:Int)+1:=by omega
   have htn1:((2:Int)*(j:Int)+1).toNat=2*j+1:=by omega
   have hwm:IntKind.i64.wrap (16*y)=16*y:=wi (by omega) (by omega)
   have hwa:IntKind.i64.wrap (x+16*y)=x+16*y:=wi (by omega) (by omega)
   obtain ⟨v2,H2,hap,hT⟩:=hrest y hyb.1 hyb.2 hay
   have hcy':cs[o+(2*j+1)]? =some (.int .i64 y):=hcy
   simp [s169_0,e3,e5,h3',h3'',h30,htn,zac,hg,hcx,hwi,h4',h41,htn1,hcy',hwm,hwa,zaF,zaR,zay,cellsL,wr,zaP,rd,hap,hwi2]
   exact ⟨_,by rw [hsl];omega,hT⟩
  ·have h4':¬(2:Int)*j+1< (short l).length:=by omega
   obtain ⟨v2,H2,hap,hT⟩:=hrest 0 (by omega) (by omega) (zgS (by omega))
   simp only [Int.mul_zero,Int.add_zero] at hap
   simp [s169_0,e3,e5,h3',h3'',h30,htn,zac,hg,hcx,hwi,h4',zaF,zaR,zay,cellsL,wr,zaP,rd,hap,hwi2]
   exact ⟨_,by rw [hsl];omega,hT⟩
 ·have h5:j=(zaG l+1) / 2:=by omega
  have h3':¬(2:Int)*j< (short l).length:=by omega
  have h3'':¬2*j< (short l).length:=by omega
  obtain ⟨a4,c4,he4,hrow⟩:=hA.row
  simp [s169_0,e3,e5,he4,h3',h3'']
  rw [zfi hrow]
  refine ⟨?_,hk⟩
  rw [h5];rfl
theorem zoS (s:Bytes) (hs:s.length≤100000):Wf S 126 [.string (ofL s)] H fun v H'=>Kp H.next H H'∧RR s v H':=by
 refine w126 rfl rfl _ ?_
 by_cases h0:s= []
 ·have hr:¬rok s:=fun h=>h.1 h0
  have:=RR.no (H':=H) hr
  simp [s126,zam,zew,h0,tup]
  exact ⟨Kp.refl _ _,h0 ▸ this⟩
 cases s with
 |nil=>exact absurd rfl h0
 |cons c0 s0=>
 obtain ⟨s,hsd⟩:∃s,s=c0::s0:=⟨_,rfl⟩
 rw [←hsd] at hs h0⊢
 have hget0:s[0]? =some c0:=by rw [hsd];rfl
 have hc0:=c0.toNat_lt
 have hhd:(hdN s:Int)=(c0.toNat:Int)+1:=by rw [hsd];simp [hdN]
 have hbd:=zgm s
 have hwc:IntKind.i64.wrap (c0.toNat:Int)=c0.toNat:=wi (by omega) (by omega)
 have hw1:IntKind.i64.wrap ((c0.toNat:Int)+1)=hdN s:=by rw [wi (by omega) (by omega)];omega
 have hw2:IntKind.i64.wrap ((hdN s:Int)+1)=(hdN s:Int)+1:=wi (by omega) (by omega)
 have hq:((hdN s:Int)+1).tdiv 2=((hdN s:Int)+1) / 2:=Int.tdiv_eq_ediv_of_nonneg (by omega)
 have hw3:IntKind.i64.wrap (((hdN s:Int)+1) / 2)=((hdN s:Int)+1) / 2:=wi (by omega) (by omega)
 have hw4:IntKind.i64.wrap (1+((hdN s:Int)+1) / 2)=(atN s:Int):=by rw [wi (by omega) (by omega)];unfold atN;omega
 have hid:∀{K:Kv},run S (.idS (.c (.string (ofL s))) (.c (.int .i64 0))) [] H K=K (bv c0) H:=fun {K}=>s_at (i:=0) hget0
 simp only [s126,zam,zj0,zew,List.map_nil,decide_eq_false h0,zhh,zri,zkU,zkV,zrw]
 by_cases h1:s.length< atN s
 ·have hr:¬rok s:=fun h=>by have:=h.2.1;omega
  have hno:=RR.no (H':=H) hr
  have h1':(s.length:Int)< atN s:=by omega
  simp [hid,ze8,hwc,hw1,hw2,hq,hw3,hw4,zal,h1,tup]
  exact ⟨Kp.refl _ _,hno⟩
 have h1':¬(s.length:Int)< atN s:=by omega
 simp [hid,ze8,hwc,hw1,hw2,hq,hw3,hw4,zal,h1]
 refine l126_0 S (fun d e H'=>RI H s d (e 0) (e 4) (e 5) (e 6) (e 7) H') (hdN s) ⟨0,by omega,by omega,Kp.refl _ _,Nat.le_refl _,by simp,by simp,by simp,by simpa [zaW,ints] using Acc.nil,by simp⟩ ?_
 rintro d e H1 ⟨i,hi,rfl,hk,hn,e0,e4,e5,hA,e7⟩
 by_cases h3:i< hdN s
 ·have hat:1+i / 2< s.length:=by unfold atN at h1;omega
  obtain ⟨b,hb⟩:∃b,s[1+i / 2]? =some b:=⟨_,List.getElem?_eq_getElem hat⟩
  have hbb:=b.toNat_lt
  have hba:=zch hb
  have hq2:(i:Int).tdiv 2=(i:Int) / 2:=Int.tdiv_eq_ediv_of_nonneg (by omega)
  have hm2:(i:Int).tmod 2=(i:Int) % 2:=Int.tmod_eq_emod_of_nonneg (by omega)
  have hq3:(b.toNat:Int).tdiv 16=(b.toNat:Int) / 16:=Int.tdiv_eq_ediv_of_nonneg (by omega)
  have hm3:((b.toNat:Int) / 16).tmod 16=((b.toNat:Int) / 16) % 16:=Int.tmod_eq_emod_of_nonneg (by omega)
  have hm4:(b.toNat:Int).tmod 16=(b.toNat:Int) % 16:=Int.tmod_eq_emod_of_nonneg (by omega)
  have hw5:IntKind.i64.wrap ((i:Int) / 2)=(i:Int) / 2:=wi (by omega) (by omega)
  have hw6:IntKind.i64.wrap (1+(i:Int) / 2)=1+(i:Int) / 2:=wi (by omega) (by omega)
  have hw7:IntKind.i64.wrap ((i:Int)+1)=(i:Int)+1:=wi (by omega) (by omega)
  have hwb:IntKind.i64.wrap (b.toNat:Int)=b.toNat:=wi (by omega) (by omega)
  have hwd:IntKind.i64.wrap ((b.toNat:Int) / 16)=(b.toNat:Int) / 16:=wi (by omega) (by omega)
  have hid2:∀{K:Kv},run S (.idS (.c (.string (ofL s))) (.c (.int .i64 (1+(i:Int) / 2)))) [] H1 K=K (bv b) H1:=fun {K}=>by
   rw [show 1+(i:Int) / 2=((1+i / 2:Nat):Int) by omega];exact s_at hb
  have hlen:=za9 s i
  obtain ⟨v',H',hap,hA',hn',hk'⟩:=hA.app (bytes:=8) (new:= [.int .i64 (nib s i)]) hn (Nat.le_refl _) rfl (by unfold zag;omega)
  have hT:RI H s (hdN s - (i+1)) (.string (ofL s)) (.int .i64 (hdN s)) (.int .i64 (atN s)) v' (.int .i64 ((i:Int)+1)) H':=by
   refine ⟨i+1,by omega,by omega,⟨by have:=hk.1;omega,fun k hk0=>(hk' k (by omega) (.inl hk0)).trans (hk.2 k hk0)⟩,by omega,rfl,rfl,rfl,?_,by congr 1⟩
   rw [ze7]
   have:ints (zaW s i++ [nib s i])=ints (zaW s i)++ [.int .i64 (nib s i)]:=by simp [ints]
   rw [this];exact hA'
  by_cases g:i % 2=1
  ·have g':(i:Int) % 2=1:=by omega
   have hne:((b.toNat:Int) / 16) % 16=nib s i:=by unfold nib;rw [if_pos g,hba];omega
   simp [-zhj,s126_0,e0,e4,e7,h3,hq2,hw5,hw6,hid2]
   simp [ze8,hwb,hm2,g',e0,e4,e5,e7,hq3,hwd,hm3,hne,zaF,zaR,zay,cellsL,wr,zaP,rd,hap,hw7]
   exact ⟨_,by omega,hT⟩
  ·have g':¬(i:Int) % 2=1:=by omega
   have hne:(b.toNat:Int) % 16=nib s i:=by unfold nib;rw [if_neg g,hba]
   simp [-zhj,s126_0,e0,e4,e7,h3,hq2,hw5,hw6,hid2]
   simp [ze8,hwb,hm2,g',e0,e4,e5,e7,hm4,hne,zaF,zaR,zay,cellsL,wr,zaP,rd,hap,hw7]
   exact ⟨_,by omega,hT⟩
 ·have h5:i=hdN s:=by omega
  subst h5
  have his:=zqL hA (za9 s (hdN s))
  obtain ⟨a6,c6,he6,hiv⟩:=his.iv
  rw [za9] at he6
  simp [s126_0,e0,e4,e5,e7,he6]
  rw [he6] at his
  have hww:=zm7 (c:=c6) hiv (by rw [za9];omega)
  rw [za9] at hww
  refine hww.mono ?_
  rintro r H2 ⟨rfl,rfl⟩
  by_cases hwh:zaJ (zaW s (hdN s))=true
  ·have hri:zaS (zaW s (hdN s))=true:=by simp only [zaJ,Bool.and_eq_true] at hwh;exact hwh.1
   have hsa:(atN s:Int)≤s.length:=by omega
   have hsa':atN s≤s.length:=by omega
   have hup:∀{K:Kv},run S (.slS (.c (.string (ofL s))) none (some (.c (.int .i64 (atN s))))) [] H2 K=K (.string (ofL (s.take (atN s)))) H2:=fun {K}=>by
    rw [ze1,if_pos ⟨by omega,hsa⟩];simp
   simp [hwh,e0,e5,hup]
   refine (znA his (by rw [za9];omega) (zaY hri) (zgU hwh)).mono ?_
   rintro r H3 ⟨rfl,hk3⟩
   have hK:Kp H.next H H3:=hk.trans (hk3.mono hn)
   by_cases ht:zdN (zaW s (hdN s))=s.take (atN s)
   ·have hyes:=RR.yes (s:=s) ⟨h0,hsa',hwh,ht⟩ (his.kp hk3)
    simp [zf4,ht,tup,he6,e5]
    exact ⟨hK,hyes⟩
   ·have hno:=RR.no (s:=s) (H':=H3) (fun h=>ht h.2.2.2)
    simp [zf4,ht,tup]
    exact ⟨hK,hno⟩
  ·have hno:=RR.no (s:=s) (H':=H2) (fun h=>hwh h.2.2.1)
   simp [hwh,tup]
   exact ⟨hk,hno⟩
end
def LR (s:Bytes) (v:Value) (o:Option (Bytes×Bytes)):Prop:=match o with
 |some p=>v= .tuple #[.string (ofL p.1),.int .i64 ((s.length - p.2.length:Nat):Int)]
 |none=>v= .tuple #[.string (ofL []),.int .i64 0]
def zdf (x:UInt8) (n i:Nat):Bytes:=List.replicate i x++List.replicate (n - i) 0
theorem zjx {x:UInt8} {n i:Nat} (h:i< n):(bvs (zdf x n i)).set i (bv x)=bvs (zdf x n (i+1)):=by
 have e:n - i=(n - (i+1))+1:=by omega
 unfold zdf bvs
 rw [e,List.replicate_succ,List.map_append,List.set_append_right _ _ (by simp)]
 simp [List.replicate_succ',bv]
theorem zlq {x:UInt8} {n i:Nat} (h:i≤n):(zdf x n i).length=n:=by simp [zdf];omega
structure FiI (H0:Heap) (s:Bytes) (x:UInt8) (n at_:Nat) (d:Nat) (e:Fe) (H:Heap) (i:Nat):Prop where
 h1:i≤n
 h2:d=n - i
 kp:Kp H0.next H0 H
 hN:H.get H0.next= .cells (bvs (zdf x n i)) 5 true
 e0:e 0= .string (ofL s)
 e8:e 8= .int .i64 n
 e9:e 9= .int .i64 at_
 e10:e 10= .slice (some ⟨H0.next,0,none⟩) n n
 e11:e 11= .int .i64 i
theorem zbQ {t:Bytes} {v:Nat} {u:Bytes} (h:pG 0 t=some (v,u)):zbo t= .tuple #[.int .u64 (v:Int),.int .i64 ((t.length - u.length:Nat):Int)]:=by unfold zbo;rw [h]
theorem zbR {t:Bytes} (h:pG 0 t=none):zbo t= .tuple #[.int .u64 0,.int .i64 0]:=by unfold zbo;rw [h]
theorem zb7 {t:Bytes} {v:Nat} {u:Bytes} (h:pG 0 t=some (v,u)):t.drop (t.length - u.length)=u∧u.length< t.length:=by
 have h1:=(zhr t 0 v u h).1
 have h2:=zji h
 refine ⟨?_,h2⟩
 rw [h1]
 rw [List.length_append,Nat.add_sub_cancel]
 exact List.drop_left
section
variable {H:Heap} {s:Bytes}
theorem zjy (hs:s.length≤100000) (most:Int) (hm:most≤9223372036854775807):Wf S 86 [.string (ofL s),.int .i64 most] H fun v H'=>Kp H.next H H'∧LR s v (zcy s most):=by
 refine w86 rfl rfl _ _ ?_
 simp only [s86]
 cases hsd:s with
 |nil=>
  have hc:zcy [] most=none:=rfl
  simp [zam,zew,hc,LR,tup]
  exact Kp.refl _ _
 |cons k t=>
 rw [←hsd]
 have hne:¬s= []:=by rw [hsd];simp
 have hneb:((ofL s).toList==(ofL []).toList)=false:=by rw [zaO,zaO,hsd];rfl
 have hdr:s.drop 1=t:=by rw [hsd];rfl
 have hsl:s.length=t.length+1:=by rw [hsd];rfl
 have hle1:(1:Int)≤s.length:=by omega
 have hle1':1≤s.length:=by omega
 have hget0:s[0]? =some k:=by rw [hsd];rfl
 have hid:∀{K:Kv} {H:Heap},run S (.idS (.c (.string (ofL s))) (.c (.int .i64 0))) [] H K=K (bv k) H:=fun {K} {H}=>s_at (i:=0) hget0
 have hkl:=k.toNat_lt
 simp [zam,hneb,zbA,hle1,hle1',hdr]
 refine (zbV t (by omega)).mono ?_
 rintro v H1 ⟨hk1,rfl⟩
 have hc00:zcy s most=if most< 0 then none else match zao t false (min most 1048576).toNat with
  |none=>none
  |some p=>zcO k p.1 p.2:=by rw [hsd];rfl
 cases hp:pG 0 t with
 |none=>
  have hio:∀m,zao t false m=none:=fun m=>by simp [zao,zaz,hp]
  have hc:zcy s most=none:=by rw [hc00,hio];split<;>rfl
  rw [zbR hp]
  simp [hc,LR,tup]
  exact hk1
 |some q=>
 obtain ⟨n,u⟩:=q
 obtain ⟨hdu,hul⟩:=zb7 hp
 have hn64:n< 2 ^ 64:=by simpa using zeA hp (by omega)
 obtain ⟨kk,hkk⟩:∃kk,kk=t.length - u.length:=⟨_,rfl⟩
 rw [zbQ hp,←hkk]
 rw [←hkk] at hdu
 have hk0:¬kk=0:=by omega
 by_cases hneg:most< 0
 ·have hc:zcy s most=none:=by rw [hc00,if_pos hneg]
  simp [hk0,hneg,hc,LR,tup]
  exact hk1
 have hwm:IntKind.u64.wrap most=most:=wu64 (by omega) (by omega)
 have hio:zao t false (min most 1048576).toNat=if n≤(min most 1048576).toNat then some (n,u) else none:=by
  simp [zao,zaz,hp]
 by_cases h2:most< n
 ·have hc:zcy s most=none:=by rw [hc00,if_neg hneg,hio,if_neg (by omega)]
  simp [hk0,hneg,hwm,h2,hc,LR,tup]
  exact hk1
 by_cases h3:1048576< n
 ·have hc:zcy s most=none:=by rw [hc00,if_neg hneg,hio,if_neg (by omega)]
  have h3':(1048576:Int)< n:=by omega
  simp [hk0,hneg,hwm,h2,h3,h3',hc,LR,tup]
  exact hk1
 have hc0:zcy s most=zcO k n u:=by rw [hc00,if_neg hneg,hio,if_pos (by omega)]
 clear hc00 hio
 have h3':¬(1048576:Int)< n:=by omega
 have hwn:IntKind.i64.wrap (n:Int)=n:=wi (by omega) (by omega)
 obtain ⟨a,ha⟩:∃a,a=1+kk:=⟨_,rfl⟩
 have hwa:IntKind.i64.wrap (1+(kk:Int))=(a:Int):=by rw [wi (by omega) (by omega)];omega
 have hda:s.drop a=u:=by rw [hsd,ha,Nat.add_comm];simpa using hdu
 have hal:a+u.length=s.length:=by omega
 have hws:IntKind.i64.wrap ((s.length:Int) - a)=(u.length:Int):=by rw [wi (by omega) (by omega)];omega
 have hwan:IntKind.i64.wrap ((a:Int)+n)=((a+n:Nat):Int):=by rw [wi (by omega) (by omega)];omega
 simp [hk0,hneg,hwm,h2,h3,h3',hwn,hwa,hid,ze8,zal]
 by_cases k0:k.toNat=0
 ·have hc:zcO k n u=if n≤u.length then some (u.take n,u.drop n) else none:=if_pos k0
  by_cases hle:n≤u.length
  ·have h4:¬u.length< n:=by omega
   have h4':¬(u.length:Int)< n:=by omega
   have q1:(a:Int)≤((a+n:Nat):Int)∧((a+n:Nat):Int)≤s.length:=by omega
   rw [hc0,hc,if_pos hle]
   have et:((s.take (a+n)).drop a)=u.take n:=by rw [List.drop_take,hda];congr 1;omega
   have el:s.length - (u.drop n).length=a+n:=by rw [List.length_drop];omega
   have hsl2:∀{K:Kv} {H:Heap},run S (.slS (.c (.string (ofL s))) (some (.c (.int .i64 (a:Int)))) (some (.c (.int .i64 ((a:Int)+(n:Int)))))) [] H K=K (.string (ofL (u.take n))) H:=fun {K} {H}=>by
    rw [←Int.natCast_add,zc0,if_pos ⟨by omega,q1.1,q1.2⟩,Int.toNat_natCast,Int.toNat_natCast,et]
   simp only [k0,hws,h4,h4',hwan,hsl2,LR,el,tup]
   simp [hws,h4,h4',hwan,hsl2,LR,el,tup]
   exact hk1
  ·have h4:u.length< n:=by omega
   have h4':(u.length:Int)< n:=by omega
   rw [hc0,hc,if_neg hle]
   simp [k0,hws,h4,h4',LR,tup]
   exact hk1
 by_cases k1:k.toNat=1
 ·have hc:=ziG (n:=n) (u:=u) k1
  have j0:¬(k.toNat:Int)=0:=by omega
  cases hu:u with
  |nil=>
   have h4:(s.length:Int)≤a:=by rw [hu] at hal;simp at hal;omega
   have h4':s.length≤a:=by omega
   rw [hc0,hc,hu]
   simp [k1,h4,h4',LR,tup]
   exact hk1
  |cons x w=>
   have hget:s[a]? =some x:=by
    have:(s.drop a)[0]? =some x:=by rw [hda,hu];rfl
    simpa using this
   have h4:¬(s.length:Int)≤a:=by rw [hu] at hal;simp at hal;omega
   have h4':¬s.length≤a:=by omega
   rw [hc0,hc,hu]
   have hmks:zcA H1 5 [.int .u8 0] 1 (.int .i64 (n:Int)) (.int .i64 (n:Int))=some (.slice (some ⟨H1.next,0,none⟩) n n,H1.push (.cells (zeros [.int .u8 0] n) 5 true)):=by
    simp only [zcA]
    rw [if_pos (by omega)];rfl
   have hz:zeros [.int .u8 0] n=bvs (zdf x n 0):=by
    unfold zeros zdf bvs
    induction n with
    |zero=>rfl
    |succ n ih=>simp [List.replicate_succ,bv]
   simp [k1,h4,h4',hmks]
   refine l86_0 S (fun d e H'=>∃i,FiI H1 s x n a d e H' i) n ⟨0,by omega,by omega,Kp.push (Nat.le_refl _),by rw [zaf,hz],by simp,by simp,by simp,by simp,by simp⟩ ?_
   rintro d e H2 ⟨i,hi,rfl,hk2,hN,e0,e8,e9,e10,e11⟩
   by_cases h5:i< n
   ·have hw:IntKind.i64.wrap ((i:Int)+1)=(i:Int)+1:=wi (by omega) (by omega)
    have hat:∀{K:Kv} {H:Heap},run S (.idS (.c (.string (ofL s))) (.c (.int .i64 (a:Int)))) [] H K=K (bv x) H:=fun {K} {H}=>s_at hget
    have hst:kSt H2 (.pointer (some ⟨H1.next,i,none⟩)) (bv x)=some (H2.put H1.next (.cells (bvs (zdf x n (i+1))) 5 true)):=by
     have hil:i< (bvs (zdf x n i)).length:=by rw [zev,zlq hi];exact h5
     simp only [kSt,hN]
     rw [if_pos (by simp [hil,zaB,bv]),zjx h5]
    have hlt:=zai hN
    simp [s86_0,e0,e8,e9,e10,e11,h5,hat,zac,hst,hw]
    refine ⟨n - (i+1),by omega,i+1,by omega,rfl,?_,zad hlt,by simp [e0],by simp [e8],by simp [e9],by simp [e10],by simp⟩
    exact ⟨by rw [next_put];exact hk2.1,fun k hk=>(zaa (by omega)).trans (hk2.2 k hk)⟩
   ·have h6:i=n:=by omega
    subst h6
    have hfb:zdf x i i=List.replicate i x:=by simp [zdf]
    rw [hfb] at hN
    have hrow:zaP H2 5 1 i (some ⟨H1.next,0,none⟩)=some (bvs (List.replicate i x)):=by
     simp [zaP,hN,rd]
     rw [List.take_of_length_le (by rw [zev];simp)]
     simp [zev]
    have hw1:IntKind.i64.wrap ((a:Int)+1)=((a+1:Nat):Int):=by rw [wi (by omega) (by omega)];omega
    have el:s.length - w.length=a+1:=by rw [hu] at hal;simp at hal;omega
    simp [s86_0,e0,e8,e9,e10,e11,zfi hrow,hw1,LR,el,tup]
    exact hk1.trans (hk2.mono hk1.1)
 by_cases k2:k.toNat=2
 ·have hc:zcO k n u=zb0 u n:=by
   unfold zcO;rw [if_neg k0,if_neg k1,if_pos k2]
  have q1:(a:Int)≤s.length:=by omega
  have q1':a≤s.length:=by omega
  rw [hc0,hc]
  simp [k2,zbA,q1,q1',hda]
  refine (zoS u (by omega)).mono ?_
  rintro v H2 ⟨hk2,hr⟩
  have hk12:=hk1.trans (hk2.mono hk1.1)
  by_cases hok:rok u
  ·unfold RR at hr
   rw [if_pos hok] at hr
   obtain ⟨v',rfl,hi⟩:=hr
   have hbd:=zgm u
   have hat1:atN u=1+(hdN u+1) / 2:=rfl
   have hau:=hok.2.1
   have z0:¬atN u=0:=by omega
   have hwat:IntKind.i64.wrap ((a:Int)+(atN u:Int))=((a+atN u:Nat):Int):=by rw [wi (by omega) (by omega)];omega
   obtain ⟨a2,ha2⟩:∃a2,a2=a+atN u:=⟨_,rfl⟩
   rw [←ha2] at hwat
   have q2:(a2:Int)≤s.length:=by omega
   have q2':a2≤s.length:=by omega
   have hd2:s.drop a2=u.drop (atN u):=by rw [ha2,←hda,List.drop_drop]
   obtain ⟨u2,hu2⟩:∃u2,u2=u.drop (atN u):=⟨_,rfl⟩
   rw [←hu2] at hd2
   have hl2:u2.length=u.length - atN u:=by rw [hu2,List.length_drop]
   simp [z0,hwat,zbA,q2,q2',hd2]
   refine (zbV u2 (by omega)).mono ?_
   rintro v H3 ⟨hk3,rfl⟩
   have hk13:=hk12.trans (hk3.mono hk12.1)
   cases hp2:pG 0 u2 with
   |none=>
    have hto:zas u2 false 1048576=none:=by simp [zas,zao,zaz,hp2]
    have hlc:zb0 u n=none:=by simp [zb0,hok,←hu2,hto]
    rw [zbR hp2,hlc]
    simp [LR,tup]
    exact hk13
   |some q=>
   obtain ⟨m,u3⟩:=q
   obtain ⟨hdu3,hul3⟩:=zb7 hp2
   have hm64:m< 2 ^ 64:=by simpa using zeA hp2 (by omega)
   obtain ⟨k3,hk3'⟩:∃k3,k3=u2.length - u3.length:=⟨_,rfl⟩
   rw [zbQ hp2,←hk3']
   rw [←hk3'] at hdu3
   have hk30:¬k3=0:=by omega
   have hw5:IntKind.i64.wrap ((s.length:Int) - (a2:Int))=(u2.length:Int):=by rw [wi (by omega) (by omega)];omega
   have hw6:IntKind.i64.wrap ((u2.length:Int) - (k3:Int))=(u3.length:Int):=by rw [wi (by omega) (by omega)];omega
   have hw7:IntKind.u64.wrap (u3.length:Int)=(u3.length:Int):=wu64 (by omega) (by omega)
   have hto:zas u2 false 1048576=if m≤u3.length then some (u3.take m,u3.drop m) else none:=by
    simp only [zas,zao,zaz,Bool.false_eq_true,if_false,hp2,Option.bind_some]
    by_cases hm1:m≤1048576
    ·rw [if_pos hm1];rfl
    ·rw [if_neg hm1,if_neg (by omega)];rfl
   by_cases hm3:u3.length< m
   ·have hm3':(u3.length:Int)< m:=by omega
    rw [if_neg (by omega)] at hto
    have hlc:zb0 u n=none:=by simp [zb0,hok,←hu2,hto]
    rw [hlc]
    simp [hk30,hw5,hw6,hw7,hm3,hm3',zal,LR,tup]
    exact hk13
   ·have hm3':¬(u3.length:Int)< m:=by omega
    rw [if_pos (by omega)] at hto
    obtain ⟨a3,ha3⟩:∃a3,a3=a2+k3:=⟨_,rfl⟩
    have hw8:IntKind.i64.wrap ((a2:Int)+(k3:Int))=(a3:Int):=by rw [wi (by omega) (by omega)];omega
    have hw9:IntKind.i64.wrap (m:Int)=(m:Int):=wi (by omega) (by omega)
    have hw10:IntKind.i64.wrap ((a3:Int)+(m:Int))=((a3+m:Nat):Int):=by rw [wi (by omega) (by omega)];omega
    have hd3:s.drop a3=u3:=by rw [ha3,←List.drop_drop,hd2,hdu3]
    have et:((s.take (a3+m)).drop a3)=u3.take m:=by rw [List.drop_take,hd3];congr 1;omega
    have hsl2:∀{K:Kv} {H:Heap},run S (.slS (.c (.string (ofL s))) (some (.c (.int .i64 (a3:Int)))) (some (.c (.int .i64 ((a3:Int)+(m:Int)))))) [] H K=K (.string (ofL (u3.take m))) H:=fun {K} {H}=>by
     rw [←Int.natCast_add,zc0,if_pos ⟨by omega,by omega,by omega⟩,Int.toNat_natCast,Int.toNat_natCast,et]
    obtain ⟨a',c',rfl,hiv⟩:=(hi.kp hk3).iv
    have hw:zaJ (zaW u (hdN u))=true:=hok.2.2.1
    simp [hk30,hw5,hw6,hw7,hm3,hm3',zal,hw8,hw9,hw10]
    rw [hsl2]
    try simp
    refine (zlk hiv hw (by simp;omega) n (by omega)).mono ?_
    rintro v H4 ⟨hk4,hv⟩
    have hk14:=hk13.trans (hk4.mono hk13.1)
    cases hd:zdB (zaW u (hdN u)) (u3.take m) n with
    |none=>
     rw [hd] at hv
     subst hv
     have hlc:zb0 u n=none:=by simp [zb0,hok,←hu2,hto,hd]
     rw [hlc]
     simp [LR,tup]
     exact hk14
    |some dd=>
     rw [hd] at hv
     obtain ⟨w,rfl,hA⟩:=hv
     have hlc:zb0 u n=some (dd,u3.drop m):=by simp [zb0,hok,←hu2,hto,hd]
     rw [hlc]
     obtain ⟨a'',c'',rfl,hrow⟩:=hA.row
     simp [zfi hrow,hw9,hw10,LR,tup]
     exact ⟨hk14,by omega⟩
  ·unfold RR at hr
   rw [if_neg hok] at hr
   subst hr
   have hlc:zb0 u n=none:=by simp [zb0,hok]
   rw [hlc]
   simp [LR,tup]
   exact hk12
 ·have hc:zcO k n u=none:=by
   unfold zcO;rw [if_neg k0,if_neg k1,if_neg k2]
  have j0:¬(k.toNat:Int)=0:=by omega
  have j1:¬(k.toNat:Int)=1:=by omega
  have j2:¬(k.toNat:Int)=2:=by omega
  rw [hc0,hc]
  simp [k0,k1,k2,j0,j1,j2,LR,tup]
  exact hk1
end
set_option maxHeartbeats 4000000
section
variable {H:Heap} {s:Bytes}
theorem zfd (hs:s.length≤100000):Wf S 129 [.string (ofL s)] H fun v H'=>Kp H.next H H'∧LR s v (zas s false 4096):=by
 refine w129 rfl rfl _ ?_
 simp [s129]
 refine (zbV s (by omega)).mono ?_
 rintro v H1 ⟨hk1,rfl⟩
 have hio:∀m,zao s false m=(pG 0 s).bind fun p=>if p.1≤m then some p else none:=fun m=>by simp [zao,zaz]
 have ht:zas s false 4096=(zao s false 4096).bind fun p=>if p.1≤p.2.length then some (p.2.take p.1,p.2.drop p.1) else none:=rfl
 rw [ht,hio]
 cases hp:pG 0 s with
 |none=>
  rw [zbR hp]
  simp [LR,tup,zam]
  exact hk1
 |some q=>
  obtain ⟨n,u⟩:=q
  obtain ⟨hdu,hul⟩:=zb7 hp
  have hn64:n< 2 ^ 64:=by simpa using zeA hp (by omega)
  obtain ⟨kk,hkk⟩:∃kk,kk=s.length - u.length:=⟨_,rfl⟩
  rw [zbQ hp,←hkk]
  rw [←hkk] at hdu
  have hk0:¬kk=0:=by omega
  have hk0':¬(kk:Int)=0:=by omega
  simp only [Option.bind_some]
  by_cases h2:4096< n
  ·have h2':(4096:Int)< n:=by omega
   rw [if_neg (by omega)]
   simp [hk0,hk0',h2,h2',LR,tup,zam]
   exact hk1
  have h2':¬(4096:Int)< n:=by omega
  rw [if_pos (by omega)]
  simp only [Option.bind_some]
  have w1:IntKind.i64.wrap ((s.length:Int) - kk)=((u.length:Nat):Int):=by rw [wi (by omega) (by omega)];omega
  have w2:IntKind.u64.wrap (u.length:Int)=u.length:=wu64 (by omega) (by omega)
  have w3:IntKind.i64.wrap (n:Int)=n:=wi (by omega) (by omega)
  by_cases h3:n≤u.length
  ·have h3':¬(u.length:Int)< n:=by omega
   have h3'':¬u.length< n:=by omega
   rw [if_pos h3]
   have w4:IntKind.i64.wrap ((kk:Int)+n)=((kk+n:Nat):Int):=by rw [wi (by omega) (by omega)];omega
   have et:((s.take (kk+n)).drop kk)=u.take n:=by rw [List.drop_take,hdu];congr 1;omega
   have el:s.length - (u.drop n).length=kk+n:=by rw [List.length_drop];omega
   obtain ⟨kn,hkn⟩:∃kn,kn=kk+n:=⟨_,rfl⟩
   rw [←hkn] at w4 et el
   have hsl2:∀{K:Kv} {H:Heap},run S (.slS (.c (.string (ofL s))) (some (.c (.int .i64 (kk:Int)))) (some (.c (.int .i64 (kn:Int))))) [] H K=K (.string (ofL (u.take n))) H:=fun {K} {H}=>by
    rw [zc0,if_pos ⟨by omega,by omega,by omega⟩,Int.toNat_natCast,Int.toNat_natCast,et]
   simp only [LR,el]
   simp [hk0,hk0',h2,h2',zal,w1,w2,w3,w4,h3,h3',h3'',hsl2,tup]
   exact hk1
  ·have h3':(u.length:Int)< n:=by omega
   have h3'':u.length< n:=by omega
   rw [if_neg h3]
   simp [hk0,hk0',h2,h2',zal,w1,w2,h3,h3',h3'',LR,tup,zam]
   exact hk1
theorem zoT {a:Option Addr} {c log:Nat} {sh:List Nat} (hr:zaP H 3 1 sh.length a=some (zba sh)) (ha:0< sh.length→∃bb o,a=some ⟨bb,o,none⟩) (hf:Fr log sh):Wf S 213 [.slice a sh.length c,.int .i64 log] H fun v H'=>H'=H∧v= .bool true:=by
 refine w213 rfl rfl _ _ ?_
 have f1:=hf.lo
 have f2:=hf.hi
 have f3:=hf.len
 have f4:=hf.sum
 have g1:¬(log:Int)< 5:=by omega
 have g2:¬(9:Int)< log:=by omega
 have g3:¬(256:Int)< sh.length:=by omega
 have g3':¬256< sh.length:=by omega
 have g2':¬9< log:=by omega
 have g1':¬log< 5:=by omega
 have hp9:2 ^ log≤512:=by
  have:2 ^ log≤2 ^ 9:=Nat.pow_le_pow_right (by omega) f2
  omega
 simp [s213,g1,g2,g3,g1',g2',g3']
 refine l213_0 S (fun d e H'=>∃i:Nat,i≤sh.length∧d=sh.length - i∧H'=H∧e 0= .slice a sh.length c∧e 1= .int .i64 log∧e 5= .int .i64 ((sh.take i).sum:Nat)∧e 6= .int .i64 i) sh.length ⟨0,by omega,by omega,rfl,by simp,by simp,by simp,by simp⟩ ?_
 rintro d e H' ⟨i,hi,rfl,rfl,e0,e1,e5,e6⟩
 have hsum:∀j,(sh.take j).sum≤2 ^ log:=fun j=>by
  have:=List.take_append_drop j sh
  have h2:(sh.take j++sh.drop j).sum=sh.sum:=by rw [this]
  rw [List.sum_append] at h2
  omega
 by_cases h3:i< sh.length
 ·have h3':(i:Int)< sh.length:=by omega
  obtain ⟨x,hx⟩:∃x,sh[i]? =some x:=⟨_,List.getElem?_eq_getElem h3⟩
  obtain ⟨bb,o,rfl⟩:=ha (by omega)
  have hld:kLd H' (.pointer (some ⟨bb,o+i,none⟩))=some (.int .i64 x):=by rw [zgi hr h3];simp [zba,hx]
  have hst:(sh.take (i+1)).sum=(sh.take i).sum+x:=by rw [List.take_add_one,hx];simp
  have h1:=hsum (i+1)
  rw [hst] at h1
  have h5:¬(x:Int)< 0:=by omega
  have h6:¬(1000:Int)< x:=by omega
  have h6':¬1000< x:=by omega
  obtain ⟨V,hV⟩:∃V,V=(sh.take i).sum:=⟨_,rfl⟩
  rw [←hV] at e5 hst h1
  have w1:IntKind.i64.wrap ((i:Int)+1)=(i:Int)+1:=wi (by omega) (by omega)
  have w2:IntKind.i64.wrap ((V:Int)+x)=(V:Int)+x:=wi (by omega) (by omega)
  simp [s213_0,e0,e1,e5,e6,h3,h3',zac,hld,h5,h6,h6',w1,w2]
  exact ⟨sh.length - (i+1),by omega,i+1,by omega,rfl,by rw [hst];omega,by omega⟩
 ·have hin:i=sh.length:=by omega
  subst hin
  rw [List.take_length] at e5
  simp [s213_0,e0,e1,e5,e6]
  refine (zcv H' log (by omega)).mono ?_
  rintro v H1 ⟨rfl,rfl⟩
  have:((sh.sum:Nat):Int)=p2 log:=by rw [f4];unfold p2;exact_mod_cast rfl
  simp [this]
theorem znB (c:Nat) (hc:c≤27):Wf S 131 [.int .i64 c] H fun v H'=>H'=H∧v= .int .i64 (cdN c:Nat):=by
 refine w131 rfl rfl _ ?_
 by_cases h1:c< 16
 ·have h1':(c:Int)< 16:=by omega
  have:cdN c=0:=by unfold cdN;rw [if_pos h1]
  simp [s131,h1,h1',this]
 ·have h1':¬(c:Int)< 16:=by omega
  have h2:¬(27:Int)< c:=by omega
  have h2':¬27< c:=by omega
  have:cdN c=c - 12:=by unfold cdN;rw [if_neg h1]
  have w1:IntKind.i64.wrap ((c:Int) - 12)=((c - 12:Nat):Int):=by rw [wi (by omega) (by omega)];omega
  simp [s131,h1,h1',h2,h2',this,w1]
end
section
variable {H:Heap}
theorem ziN (r:Rct) (o:Int):Wf S 174 [rcv r,.int .i64 o] H fun v H'=>Kp H.next H H'∧v= .int .i64 (if o< 1∨65533< o then -1 else rcN r o):=by
 refine w174 rfl rfl _ _ ?_
 have hrv:rcv r= .agg #[.int .i64 r.a,.int .i64 r.b,.int .i64 r.c]:=rfl
 have g1:(H.push (.cells [.int .i64 r.a,.int .i64 r.b,.int .i64 r.c] 3 true)).get H.next= .cells [.int .i64 r.a,.int .i64 r.b,.int .i64 r.c] 3 true:=zaf
 have hk1:Kp H.next H (H.push (.cells [.int .i64 r.a,.int .i64 r.b,.int .i64 r.c] 3 true)):=Kp.push (Nat.le_refl _)
 obtain ⟨H1,hH1⟩:∃H1,H1=H.push (.cells [.int .i64 r.a,.int .i64 r.b,.int .i64 r.c] 3 true):=⟨_,rfl⟩
 rw [←hH1] at g1 hk1
 simp [-zbq,s174,hrv,zay,cellsL,zac,←hH1]
 by_cases h1:o< 1
 ·simp [h1];exact hk1
 by_cases h2:65533< o
 ·simp [h1,h2];exact hk1
 have w3:IntKind.i64.wrap (o+2)=o+2:=wi (by omega) (by omega)
 have y1:IntKind.i64.wrap 1=1:=by decide
 have y2:IntKind.i64.wrap 2=2:=by decide
 have y3:IntKind.i64.wrap 3=3:=by decide
 simp [h1,h2]
 refine u174_0 S ?_
 by_cases ha:r.a=o
 ·simp [s174_0,zac,g1,ha,rcN];exact hk1
 simp [s174_0,zac,g1,ha,y1]
 refine u174_0 S ?_
 by_cases hb:r.b=o
 ·simp [s174_0,zac,g1,ha,hb,rcN];exact hk1
 simp [s174_0,zac,g1,ha,hb,y2]
 refine u174_0 S ?_
 by_cases hc:r.c=o
 ·simp [s174_0,zac,g1,ha,hb,hc,rcN];exact hk1
 simp [s174_0,zac,g1,ha,hb,hc,y3]
 refine u174_0 S ?_
 simp [s174_0,w3,rcN,ha,hb,hc]
 exact hk1
theorem zlr (r:Rct) (n:Nat) (hn:n≤1000000):Wf S 134 [rcv r,.int .i64 n] H fun v H'=>Kp H.next H H'∧v= .int .i64 ((rcO r n).getD 0):=by
 refine w134 rfl rfl _ _ ?_
 have hrv:rcv r= .agg #[.int .i64 r.a,.int .i64 r.b,.int .i64 r.c]:=rfl
 have g1:(H.push (.cells [.int .i64 r.a,.int .i64 r.b,.int .i64 r.c] 3 true)).get H.next= .cells [.int .i64 r.a,.int .i64 r.b,.int .i64 r.c] 3 true:=zaf
 have hk1:Kp H.next H (H.push (.cells [.int .i64 r.a,.int .i64 r.b,.int .i64 r.c] 3 true)):=Kp.push (Nat.le_refl _)
 obtain ⟨H1,hH1⟩:∃H1,H1=H.push (.cells [.int .i64 r.a,.int .i64 r.b,.int .i64 r.c] 3 true):=⟨_,rfl⟩
 rw [←hH1] at g1 hk1
 have w1:IntKind.i64.wrap ((n:Int) - 2)=(n:Int) - 2:=wi (by omega) (by omega)
 obtain ⟨x,hx⟩:∃x,x=rcX r n:=⟨_,rfl⟩
 have hN:=ziN (H:=H1) r x
 rw [hrv] at hN
 have hrt:([.int .i64 r.a,.int .i64 r.b,.int .i64 r.c]:List Value).take 3= [.int .i64 r.a,.int .i64 r.b,.int .i64 r.c]:=rfl
 have hO:rcO r n=if 1≤x∧x≤65533∧rcN r x=n then some x else none:=by unfold rcO;rw [←hx]
 rw [hO]
 obtain ⟨G,hG⟩:∃G:Int,G=(if 1≤x∧x≤65533∧rcN r x=n then some x else none).getD 0:=⟨_,rfl⟩
 rw [←hG]
 have hxx:(n=0∧x=r.a)∨(n=1∧x=r.b)∨(n=2∧x=r.c)∨(3≤n∧x=(n:Int) - 2):=by
  unfold rcX at hx
  split at hx
  ·left;omega
  ·split at hx
   ·right;left;omega
   ·split at hx
    ·right;right;left;omega
    ·right;right;right;omega
 rcases hxx with ⟨rfl,hx2⟩|⟨rfl,hx2⟩|⟨rfl,hx2⟩|⟨h3,hx2⟩
 ·have w9:=w1
  rw [hx2] at hN
  simp [-zbq,s134,hrv,zay,cellsL,zac,w1,←hH1]
  simp [g1,zaL,rd,zac]
  refine hN.mono ?_
  rintro v H2 ⟨hk2,rfl⟩
  have hk:=hk1.trans (hk2.mono hk1.1)
  rw [←hx2]
  by_cases hc:x< 1∨65533< x
  ·have hz:¬(1≤x∧x≤65533∧rcN r x=((0:Nat):Int)):=by omega
   have hm:¬(-1:Int)=((0:Nat):Int):=by omega
   have hG0:G=0:=by rw [hG,if_neg hz];rfl
   rw [if_pos hc]
   simp [hm,hG0]
   exact hk
  ·rw [if_neg hc]
   by_cases he:rcN r x=((0:Nat):Int)
   ·have hz:1≤x∧x≤65533∧rcN r x=((0:Nat):Int):=by omega
    have hG0:G=x:=by rw [hG,if_pos hz];rfl
    simp [he,hG0]
    exact hk
   ·have hz:¬(1≤x∧x≤65533∧rcN r x=((0:Nat):Int)):=by omega
    have hG0:G=0:=by rw [hG,if_neg hz];rfl
    have he':=he
    try simp at he'
    simp [he,he',hG0]
    exact hk
 ·have w9:=w1
  rw [hx2] at hN
  simp [-zbq,s134,hrv,zay,cellsL,zac,w1,←hH1]
  simp [g1,zaL,rd,zac]
  refine hN.mono ?_
  rintro v H2 ⟨hk2,rfl⟩
  have hk:=hk1.trans (hk2.mono hk1.1)
  rw [←hx2]
  by_cases hc:x< 1∨65533< x
  ·have hz:¬(1≤x∧x≤65533∧rcN r x=((1:Nat):Int)):=by omega
   have hm:¬(-1:Int)=((1:Nat):Int):=by omega
   have hG0:G=0:=by rw [hG,if_neg hz];rfl
   rw [if_pos hc]
   simp [hm,hG0]
   exact hk
  ·rw [if_neg hc]
   by_cases he:rcN r x=((1:Nat):Int)
   ·have hz:1≤x∧x≤65533∧rcN r x=((1:Nat):Int):=by omega
    have hG0:G=x:=by rw [hG,if_pos hz];rfl
    simp [he,hG0]
    exact hk
   ·have hz:¬(1≤x∧x≤65533∧rcN r x=((1:Nat):Int)):=by omega
    have hG0:G=0:=by rw [hG,if_neg hz];rfl
    have he':=he
    try simp at he'
    simp [he,he',hG0]
    exact hk
 ·have w9:=w1
  rw [hx2] at hN
  simp [-zbq,s134,hrv,zay,cellsL,zac,w1,←hH1]
  simp [g1,zaL,rd,zac]
  refine hN.mono ?_
  rintro v H2 ⟨hk2,rfl⟩
  have hk:=hk1.trans (hk2.mono hk1.1)
  rw [←hx2]
  by_cases hc:x< 1∨65533< x
  ·have hz:¬(1≤x∧x≤65533∧rcN r x=((2:Nat):Int)):=by omega
   have hm:¬(-1:Int)=((2:Nat):Int):=by omega
   have hG0:G=0:=by rw [hG,if_neg hz];rfl
   rw [if_pos hc]
   simp [hm,hG0]
   exact hk
  ·rw [if_neg hc]
   by_cases he:rcN r x=((2:Nat):Int)
   ·have hz:1≤x∧x≤65533∧rcN r x=((2:Nat):Int):=by omega
    have hG0:G=x:=by rw [hG,if_pos hz];rfl
    simp [he,hG0]
    exact hk
   ·have hz:¬(1≤x∧x≤65533∧rcN r x=((2:Nat):Int)):=by omega
    have hG0:G=0:=by rw [hG,if_neg hz];rfl
    have he':=he
    try simp at he'
    simp [he,he',hG0]
    exact hk
 ·have h3':¬(n:Int)< 3:=by omega
  have h3'':¬n< 3:=by omega
  rw [hx2] at hN
  simp [-zbq,s134,hrv,zay,cellsL,zac,w1,←hH1,h3',h3'']
  simp [g1,zaL,rd,zac,h3',h3'']
  refine hN.mono ?_
  rintro v H2 ⟨hk2,rfl⟩
  have hk:=hk1.trans (hk2.mono hk1.1)
  rw [←hx2]
  by_cases hc:x< 1∨65533< x
  ·have hz:¬(1≤x∧x≤65533∧rcN r x=(n:Int)):=by omega
   have hm:¬(-1:Int)=(n:Int):=by omega
   have hG0:G=0:=by rw [hG,if_neg hz];rfl
   rw [if_pos hc]
   simp [hm,hG0]
   exact hk
  ·rw [if_neg hc]
   by_cases he:rcN r x=(n:Int)
   ·have hz:1≤x∧x≤65533∧rcN r x=(n:Int):=by omega
    have hG0:G=x:=by rw [hG,if_pos hz];rfl
    simp [he,hG0]
    exact hk
   ·have hz:¬(1≤x∧x≤65533∧rcN r x=(n:Int)):=by omega
    have hG0:G=0:=by rw [hG,if_neg hz];rfl
    have he':=he
    try simp at he'
    simp [he,he',hG0]
    exact hk
theorem zls (r:Rct) (o:Int):Wf S 135 [rcv r,.int .i64 o] H fun v H'=>Kp H.next H H'∧v=rcv (rcB r o):=by
 refine w135 rfl rfl _ _ ?_
 have hrv:rcv r= .agg #[.int .i64 r.a,.int .i64 r.b,.int .i64 r.c]:=rfl
 obtain ⟨Z,hZ⟩:∃Z:List Value,Z= [.int .i64 0,.int .i64 0,.int .i64 0]:=⟨_,rfl⟩
 have hZl:Z.length=3:=by rw [hZ];rfl
 have g1:(H.push (.cells [.int .i64 r.a,.int .i64 r.b,.int .i64 r.c] 3 true)).get H.next= .cells [.int .i64 r.a,.int .i64 r.b,.int .i64 r.c] 3 true:=zaf
 have hk1:Kp H.next H (H.push (.cells [.int .i64 r.a,.int .i64 r.b,.int .i64 r.c] 3 true)):=Kp.push (Nat.le_refl _)
 obtain ⟨H1,hH1⟩:∃H1,H1=H.push (.cells [.int .i64 r.a,.int .i64 r.b,.int .i64 r.c] 3 true):=⟨_,rfl⟩
 rw [←hH1] at g1 hk1
 have n1:H1.next=H.next+1:=by rw [hH1];simp
 obtain ⟨H2,hH2⟩:∃H2,H2=H1.push (.cells [.int .i64 0,.int .i64 0,.int .i64 0] 3 true):=⟨_,rfl⟩
 have n2:H2.next=H.next+2:=by rw [hH2];simp [n1]
 obtain ⟨H3,hH3⟩:∃H3,H3=H2.push (.cells [.int .i64 o,.int .i64 0,.int .i64 0] 3 true):=⟨_,rfl⟩
 have n3:H3.next=H.next+3:=by rw [hH3];simp [n2]
 have q1:H3.get H.next= .cells [.int .i64 r.a,.int .i64 r.b,.int .i64 r.c] 3 true:=by rw [hH3,zae (by omega),hH2,zae (by omega)];exact g1
 have q4:H3.get H1.next= .cells [.int .i64 0,.int .i64 0,.int .i64 0] 3 true:=by rw [hH3,zae (by omega),hH2];exact zaf
 have q5:H3.get H2.next= .cells [.int .i64 o,.int .i64 0,.int .i64 0] 3 true:=by rw [hH3];exact zaf
 have hk3:Kp H.next H H3:=by rw [hH3,hH2];exact (hk1.trans (Kp.push (by omega))).trans (Kp.push (by simp;omega))
 have put5:∀(HX:Heap) (cs:List Value),HX.next=H3.next→HX.get H.next= .cells [.int .i64 r.a,.int .i64 r.b,.int .i64 r.c] 3 true→HX.get H1.next= .cells [.int .i64 0,.int .i64 0,.int .i64 0] 3 true→Kp H.next H HX→∃HY,HY=HX.put H2.next (.cells cs 3 true)∧HY.next=H3.next∧HY.get H.next= .cells [.int .i64 r.a,.int .i64 r.b,.int .i64 r.c] 3 true∧HY.get H1.next= .cells [.int .i64 0,.int .i64 0,.int .i64 0] 3 true∧HY.get H2.next= .cells cs 3 true∧Kp H.next H HY:=by
  intro HX cs h1 h2 h3 h4
  exact ⟨_,rfl,by rw [next_put];exact h1,by rw [zaa (by omega)];exact h2,by rw [zaa (by omega)];exact h3,zad (by omega),h4.trans (Kp.put (by omega))⟩
 have fin:∀(HX:Heap) (x y z:Int),HX.next=H3.next→HX.get H1.next= .cells [.int .i64 0,.int .i64 0,.int .i64 0] 3 true→Kp H.next H HX→∃HY,HY=HX.put H1.next (.cells [.int .i64 x,.int .i64 y,.int .i64 z] 3 true)∧HY.get H1.next= .cells [.int .i64 x,.int .i64 y,.int .i64 z] 3 true∧Kp H.next H HY:=fun HX x y z h1 h3 h4=>
  ⟨_,rfl,zad (by omega),h4.trans (Kp.put (by omega))⟩
 have y1:IntKind.i64.wrap 1=1:=by decide
 have y2:IntKind.i64.wrap 2=2:=by decide
 have y3:IntKind.i64.wrap 3=3:=by decide
 simp [-zbq,s135,hrv,zay,cellsL,zac,←hH1,←hH2,zaF,zaR,wr,Env.ev,zaT]
 rw [←hH3]
 have tail:∀(HX:Heap) (e:Fe) (x y z:Int) (rr:Rct),rr=⟨x,y,z⟩→HX.next=H3.next→HX.get H1.next= .cells [.int .i64 0,.int .i64 0,.int .i64 0] 3 true→Kp H.next H HX→HX.get H2.next= .cells [.int .i64 x,.int .i64 y,.int .i64 z] 3 true→True:=fun _ _ _ _ _ _ _ _ _ _ _=>trivial
 refine u135_0 S ?_
 by_cases ha:r.a=o
 ·simp [s135_0,zac,q1,ha,y1]
  refine u135_0 S ?_
  obtain ⟨H5,hH5,n5,p1,p4,p5,hk5⟩:=put5 H3 [.int .i64 o,.int .i64 r.b,.int .i64 0] rfl q1 q4 hk3
  cases hd:decide (r.b=o)<;>simp [s135_0,zac,q1,q5,hd,y2,kSt,zaB,←hH5]
  all_goals
  refine u135_0 S ?_
  obtain ⟨H6,hH6,n6,r1,r4,r5,hk6⟩:=put5 H5 [.int .i64 o,.int .i64 r.b,.int .i64 r.c] n5 p1 p4 hk5
  cases hc:decide (r.c=o)<;>simp [s135_0,zac,p1,p5,hc,y3,kSt,zaB,←hH6]
  all_goals
  refine u135_0 S ?_
  obtain ⟨H7,hH7,r7,hk7⟩:=fin H6 o r.b r.c n6 r4 hk6
  have hB:rcB r o=⟨o,r.b,r.c⟩:=by unfold rcB;rw [if_pos ha]
  rw [hB]
  simp [s135_0,zaL,r5,rd,zaT,r4,wr,←hH7,r7,tup,rcv,rcl]
  exact hk7
 ·obtain ⟨H5,hH5,n5,p1,p4,p5,hk5⟩:=put5 H3 [.int .i64 o,.int .i64 r.a,.int .i64 0] rfl q1 q4 hk3
  simp [s135_0,zac,q1,q5,ha,y1,y2,kSt,zaB,←hH5]
  refine u135_0 S ?_
  by_cases hb:r.b=o
  ·simp [s135_0,zac,p1,p5,hb,y2]
   refine u135_0 S ?_
   obtain ⟨H6,hH6,n6,r1,r4,r5,hk6⟩:=put5 H5 [.int .i64 o,.int .i64 r.a,.int .i64 r.c] n5 p1 p4 hk5
   cases hc:decide (r.c=o)<;>simp [s135_0,zac,p1,p5,hc,y3,kSt,zaB,←hH6]
   all_goals
   refine u135_0 S ?_
   obtain ⟨H7,hH7,r7,hk7⟩:=fin H6 o r.a r.c n6 r4 hk6
   have hB:rcB r o=⟨o,r.a,r.c⟩:=by unfold rcB;rw [if_neg ha,if_pos hb]
   rw [hB]
   simp [s135_0,zaL,r5,rd,zaT,r4,wr,←hH7,r7,tup,rcv,rcl]
   exact hk7
  ·obtain ⟨H6,hH6,n6,r1,r4,r5,hk6⟩:=put5 H5 [.int .i64 o,.int .i64 r.a,.int .i64 r.b] n5 p1 p4 hk5
   simp [s135_0,zac,p1,p5,hb,y2,y3,kSt,zaB,←hH6]
   refine u135_0 S ?_
   obtain ⟨H7,hH7,r7,hk7⟩:=fin H6 o r.a r.b n6 r4 hk6
   have hB:rcB r o=⟨o,r.a,r.b⟩:=by unfold rcB;rw [if_neg ha,if_neg hb]
   rw [hB]
   simp [s135_0,zaL,r5,rd,zaT,r4,wr,←hH7,r7,tup,rcv,rcl]
   exact hk7
end
section
variable {H:Heap} {s:Bytes}
theorem zoU {a:Option Addr} {c:Nat} (ha:0< s.length→∃bb,a=some ⟨bb,0,none⟩∧H.get bb= .cells (bvs s) 5 true) (hs:s.length≤100000):Wf S 243 [.slice a s.length c] H fun v H'=>Kp H.next H H'∧match opN s with
  |none=>v= .tuple #[.slice none 0 0,.bool false]
  |some n=>∃w,v= .tuple #[w,.bool true]∧zb6 H' w s 0 n:=by
 refine w243 rfl rfl _ ?_
 by_cases h0:s.length=0
 ·have hs0:s= []:=List.eq_nil_of_length_eq_zero h0
  subst hs0
  have ho:opN []=none:=rfl
  rw [ho]
  simp [s243,tup]
  exact Kp.refl _ _
 ·obtain ⟨bb,rfl,hgb⟩:=ha (by omega)
  obtain ⟨x,hx⟩:∃x,s[s.length - 1]? =some x:=⟨_,List.getElem?_eq_getElem (by omega)⟩
  have hxl:=x.toNat_lt
  have hlast:s.getLast? =some x:=by rw [List.getLast?_eq_getElem?];exact hx
  have hcx:(bvs s)[s.length - 1]? =some (.int .u8 x.toNat):=by simp [bvs,bv,hx]
  have w1:IntKind.i64.wrap ((s.length:Int) - 1)=((s.length - 1:Nat):Int):=by rw [wi (by omega) (by omega)];omega
  have g1:s.length - 1< s.length:=by omega
  have h0':¬(s.length:Int)=0:=by omega
  by_cases hx0:x.toNat=0
  ·have ho:opN s=none:=by unfold opN;rw [hlast];simp only;rw [if_pos hx0]
   rw [ho]
   simp [s243,h0,h0',w1,g1,zac,hgb,hcx,hx0,tup]
   exact Kp.refl _ _
  ·have ho:opN s=some (8*(s.length - 1)+wd x.toNat - 1):=by unfold opN;rw [hlast];simp only;rw [if_neg hx0]
   rw [ho]
   have hx0':¬(x.toNat:Int)=0:=by omega
   obtain ⟨hwp,hw8,hwg,hwl⟩:=zc5 8 x.toNat (by omega) (by omega) (by omega)
   simp [s243,h0,h0',w1,g1,zac,hgb,hcx,hx0,hx0']
   refine (zhB (H:=H) (a:=some ⟨bb,0,none⟩) (c:=c) (fun _=>⟨bb,rfl,hgb⟩) (by omega)).mono ?_
   rintro v H1 ⟨hk1,hA⟩
   have hB:=hA.bitS
   obtain ⟨wa,wc,rfl⟩:=hB.len
   have w2:IntKind.i64.wrap (((8*s.length:Nat):Int) - 1)=((8*s.length - 1:Nat):Int):=by rw [wi (by omega) (by omega)];omega
   obtain ⟨T,hT⟩:∃T,T=8*s.length:=⟨_,rfl⟩
   rw [←hT] at hA hB w2⊢
   obtain ⟨n,hn⟩:∃n,n=8*(s.length - 1)+wd x.toNat - 1:=⟨_,rfl⟩
   rw [←hn]
   simp [w2]
   refine l243_0 S (fun d e H'=>∃k:Nat,n≤k∧k< T∧d=k - n∧H'=H1∧e 4= .slice wa T wc∧e 5= .int .i64 k) (T - 1 - n) ⟨T - 1,by omega,by omega,rfl,rfl,by simp,by simp⟩ ?_
   rintro d e H' ⟨k,hnk,hkT,rfl,rfl,e4,e5⟩
   obtain ⟨b2,o2,c2,hv,hld⟩:=hB.ld (i:=k) hkT
   injection hv with hv1 _ hv2
   subst hv1 hv2
   rw [Nat.zero_add] at hld
   have hkT':(k:Int)< T:=by omega
   have hbit:za1 s k=x.toNat / 2 ^ (k - 8*(s.length - 1)) % 2:=by
    unfold za1
    have e1:k / 8=s.length - 1:=by omega
    have e2:k % 8=k - 8*(s.length - 1):=by omega
    rw [e1,e2,List.getD_eq_getElem?_getD,hx];rfl
   by_cases hkn:k=n
   ·have hb1:za1 s k=1:=by
     rw [hbit,show k - 8*(s.length - 1)=wd x.toNat - 1 by omega]
     have h2:2 ^ wd x.toNat=2 ^ (wd x.toNat - 1)*2:=by rw [←Nat.pow_succ];congr 1;omega
     have h3:x.toNat / 2 ^ (wd x.toNat - 1)=1:=by
      apply Nat.div_eq_of_lt_le<;>omega
     rw [h3]
    rw [hb1] at hld
    obtain ⟨v',hv',hrun⟩:=hB.upto (S:=S) (j:=k) (by omega)
    have hr2:=fun K=>hrun H' (Kp.refl _ _) K
    simp [s243_0,e4,e5,hkT,hkT',zac,hld,hr2,tup]
    subst hkn
    exact ⟨hk1,hv'⟩
   ·have hb0:za1 s k=0:=by
     rw [hbit,Nat.div_eq_of_lt]
     exact Nat.lt_of_lt_of_le hwl (Nat.pow_le_pow_right (by omega) (by omega))
    rw [hb0] at hld
    have w3:IntKind.i64.wrap ((k:Int) - 1)=((k - 1:Nat):Int):=by rw [wi (by omega) (by omega)];omega
    simp [s243_0,e4,e5,hkT,hkT',zac,hld,w3]
    exact ⟨k - 1 - n,by omega,k - 1,by omega,by omega,rfl,rfl⟩
structure TkI (H0:Heap) (v:Value) (s:Bytes) (log:Nat) (T:Option (List Nat×Nat)) (d:Nat) (e:Fe) (H:Heap) (pre:List Nat) (r a:Nat):Prop where
 hd:d=256 - pre.length
 hpl:pre.length≤256
 hr:r≤512
 ha:a≤8*s.length
 h3:3≤a
 hT:T=(hdD s (256 - pre.length) r a).map fun q=>(pre++q.1,q.2)
 hk:Kp H0.next H0 H
 acc:Acc 3 1 H0.next H.next H (e 6) pre.length (zba pre)
 e0:e 0=v
 e5:e 5= .int .i64 log
 e7:e 7= .int .i64 a
 e8:e 8= .int .i64 r
def TkO (H:Heap) (v:Value) (H':Heap) (log:Nat):Option (List Nat×Nat)→Prop
 |none=>v= .tuple #[.slice none 0 0,.int .i64 0,.int .i64 0]
 |some p=>∃w,v= .tuple #[w,.int .i64 log,.int .i64 p.2]∧Acc 3 1 H.next H'.next H' w p.1.length (zba p.1)∧3≤p.2∧p.2≤8*s.length
theorem zoV {v:Value} (hB:zb6 H v s 0 (8*s.length)) (hs:s.length≤100000):Wf S 212 [v] H fun v H'=>Kp H.next H H'∧TkO (s:=s) H v H' (zav s 0 3+5) (zdx s):=by
 refine w212 rfl rfl _ ?_
 obtain ⟨wa,wc,hv⟩:=hB.len
 have hlen:∀(HX:Heap) (K:Kv),run S (.lenL (.c v)) [] HX K=K (.int .i64 ((8*s.length:Nat):Int)) HX:=fun HX K=>by rw [hv];simp
 obtain ⟨T8,hT8⟩:∃T,T=8*s.length:=⟨_,rfl⟩
 rw [←hT8] at hB hlen
 by_cases c1:T8< 3
 ·have c1':(T8:Int)< 3:=by omega
  have hz:zdx s=none:=by unfold zdx;rw [if_neg (by omega)]
  rw [hz]
  simp [s212,hlen,c1,c1',TkO,tup]
  exact Kp.refl _ _
 have c1':¬(T8:Int)< 3:=by omega
 obtain ⟨v3,hv3,hrun3⟩:=hB.upto (S:=S) (j:=3) (by omega)
 have hr3:∀K:Kv,run S (.slc 3 1 (.c v) none (some (.c (.int .i64 3)))) [] H K=K v3 H:=fun K=>hrun3 H (Kp.refl _ _) K
 simp [s212,hlen,c1,c1',hr3]
 refine (zcP hv3 (by omega)).mono ?_
 rintro r H1 ⟨rfl,rfl⟩
 have hl3:=za6 s 0 3
 obtain ⟨N3,hN3⟩:∃N,N=zav s 0 3:=⟨_,rfl⟩
 rw [←hN3] at hl3⊢
 have hl3':N3< 8:=hl3
 have w0:IntKind.i64.wrap (N3:Int)=N3:=wi (by omega) (by omega)
 have w1:IntKind.i64.wrap (5+(N3:Int))=((N3+5:Nat):Int):=by rw [wi (by omega) (by omega)];omega
 obtain ⟨log,hlog⟩:∃log,log=N3+5:=⟨_,rfl⟩
 rw [←hlog] at w1⊢
 by_cases c2:9< log
 ·have c2':(9:Int)< log:=by omega
  have hz:zdx s=none:=by unfold zdx;rw [if_neg (by omega)]
  rw [hz]
  simp [w0,w1,c2,c2',TkO,tup]
  exact Kp.refl _ _
 have c2':¬(9:Int)< log:=by omega
 have hT:zdx s=hdD s 256 (2 ^ log) 3:=by unfold zdx;rw [if_pos (by omega),←hN3,←hlog]
 rw [hT]
 simp [w0,w1,c2,c2']
 refine (zcv H1 log (by omega)).mono ?_
 rintro r H2 ⟨h2,rfl⟩
 rw [h2]
 have hp2:p2 log=((2 ^ log:Nat):Int):=by unfold p2;exact_mod_cast rfl
 rw [hp2]
 have hp9:2 ^ log≤512:=by
  have:2 ^ log≤2 ^ 9:=Nat.pow_le_pow_right (by omega) (by omega)
  omega
 obtain ⟨R,hR⟩:∃R,R=2 ^ log:=⟨_,rfl⟩
 rw [←hR] at hp9⊢
 obtain ⟨T,hTT⟩:∃T,T=hdD s 256 R 3:=⟨_,rfl⟩
 rw [←hTT]
 try simp
 refine l212_0 S (fun d e H'=>∃pre r a,TkI H1 v s log T d e H' pre r a) 256 ⟨[],R,3,⟨by simp,by simp,hp9,by omega,by omega,?_,Kp.refl _ _,?_,by simp,by simp,by simp,by simp⟩⟩ ?_
 ·rw [hTT];simp
 ·simp [zba];exact Acc.nil
 rintro d e H' ⟨pre,r,a,I⟩
 have e0:=I.e0
 have e5:=I.e5
 have e7:=I.e7
 have e8:=I.e8
 have hk:=I.hk
 have hpl:=I.hpl
 have hr5:=I.hr
 have haL:=I.ha
 have hIT:=I.hT
 have hdd:=I.hd
 by_cases hr0:r=0
 ·have hz:T=some (pre,a):=by
   rw [hIT,hr0]
   have:hdD s (256 - pre.length) 0 a=some ([],a):=by cases 256 - pre.length<;>rfl
   rw [this];simp
  rw [hz]
  have hr0':e 8= .int .i64 0:=by rw [e8,hr0];rfl
  simp [s212_0,hr0',e5,e7,TkO,tup]
  exact ⟨hk,I.acc,I.h3,by omega⟩
 have hrp:(0:Int)< r:=by omega
 have hrp':0< r:=by omega
 have w2:IntKind.u32.wrap (r:Int)=r:=wu32 (by omega) (by omega)
 simp [s212_0,e8,hrp,hrp',w2]
 refine (ziq r (by omega)).mono ?_
 rintro x H3 ⟨h3,rfl⟩
 rw [h3]
 obtain ⟨_,hw10,_,_⟩:=zc5 10 r (by omega) (by omega) hrp'
 obtain ⟨W,hW⟩:∃W,W=wd r:=⟨_,rfl⟩
 rw [←hW] at hw10⊢
 have w3:IntKind.i64.wrap ((a:Int)+W)=((a+W:Nat):Int):=by rw [wi (by omega) (by omega)];omega
 obtain ⟨aW,haW⟩:∃aW,aW=a+W:=⟨_,rfl⟩
 rw [←haW] at w3
 by_cases c3:T8< aW
 ·have c3':(T8:Int)< aW:=by omega
  have hz:T=none:=by
   rw [hIT]
   match hf:256 - pre.length,r,hr0 with
   |0,r+1,_=>rfl
   |f+1,r+1,_=>
    simp only [hdD]
    rw [if_neg (by omega)];rfl
  rw [hz]
  simp [e0,e7,w3,hlen,c3,c3',TkO,tup]
  exact hk
 have c3':¬(T8:Int)< aW:=by omega
 obtain ⟨la,lc,hlv,_⟩:=I.acc.len
 have hl6:∀K:Kv,run S (.lenL (.c (e 6))) [] H' K=K (.int .i64 pre.length) H':=fun K=>by rw [hlv];simp
 by_cases c4:pre.length=256
 ·have c4':(pre.length:Int)=256:=by omega
  have hz:T=none:=by
   rw [hIT,show 256 - pre.length=0 by omega]
   match r,hr0 with
   |r+1,_=>rfl
  rw [hz]
  simp [e0,e7,w3,hlen,c3,c3',hl6,c4,c4',TkO,tup]
  exact hk
 have c4':¬(pre.length:Int)=256:=by omega
 obtain ⟨vm,hvm,hrunm⟩:=hB.cut (S:=S) (i:=a) (j:=aW) (by omega) (by omega)
 have hrm:∀K:Kv,run S (.slc 3 1 (.c v) (some (.c (.int .i64 (a:Int)))) (some (.c (.int .i64 (aW:Int))))) [] H' K=K vm H':=fun K=>hrunm H' hk K
 rw [Nat.zero_add,show aW - a=W by omega] at hvm
 simp [e0,e7,w3,hlen,c3,c3',hl6,c4,c4',hrm]
 refine (zcP (hvm.kp hk) (by omega)).mono ?_
 rintro x H4 ⟨h4,rfl⟩
 rw [h4]
 have hnl:=za6 s a W
 have hpw:2 ^ W≤2 ^ 10:=Nat.pow_le_pow_right (by omega) hw10
 obtain ⟨V,hV⟩:∃V,V=zav s a W:=⟨_,rfl⟩
 rw [←hV] at hnl⊢
 have w4:IntKind.i64.wrap (V:Int)=V:=wi (by omega) (by omega)
 obtain ⟨f,hf⟩:∃f,256 - pre.length=f+1:=⟨255 - pre.length,by omega⟩
 have hstep:hdD s (256 - pre.length) r a=if V≤r then (hdD s f (r - V) aW).map fun p=>(V::p.1,p.2) else none:=by
  rw [hf]
  match r,hr0 with
  |r+1,_=>
   simp only [hdD]
   rw [←hW,←hV,←haW]
   by_cases hVr:V≤r+1
   ·rw [if_pos ⟨by omega,hVr⟩,if_pos hVr]
   ·rw [if_neg (fun h=>hVr h.2),if_neg hVr]
 by_cases c5:r< V
 ·have c5':(r:Int)< V:=by omega
  have hz:T=none:=by rw [hIT,hstep,if_neg (by omega)];rfl
  rw [hz]
  simp [w4,e8,c5,c5',TkO,tup]
  exact hk
 have c5':¬(r:Int)< V:=by omega
 have accK:=I.acc
 obtain ⟨v',H5,hap,hA5,hn5,hk5⟩:=accK.app (bytes:=8) (new:= [.int .i64 (V:Int)]) (by have:=hk.1;omega) (Nat.le_refl _) rfl (by unfold zag;omega)
 have w5:IntKind.i64.wrap ((r:Int) - V)=((r - V:Nat):Int):=by rw [wi (by omega) (by omega)];omega
 simp [w4,e8,c5,c5',e5,zaF,zaR,zay,cellsL,wr,zaP,rd,hap,w5]
 refine ⟨256 - (pre.length+1),by omega,pre++ [V],r - V,aW,⟨by simp,by simp;omega,by omega,by omega,by have:=I.h3;omega,?_,?_,?_,by simp [e0],by simp [e5],by simp [haW],by simp⟩⟩
 ·rw [hIT,hstep,if_pos (by omega)]
  have:256 - (pre++ [V]).length=f:=by simp;omega
  rw [this,Option.map_map]
  congr 1
  funext q
  simp
 ·exact ⟨by have:=hk.1;omega,fun k hkk=>by rw [hk5 k (by have:=hk.1;omega) (.inl hkk)];exact hk.2 k hkk⟩
 ·rw [zmX]
  simpa [zba] using hA5
end
end Go.Proofs.YtjgpbhodbgjggaaGreat.K
