/- A part of the proof of PSnapAny, made small by a program of this work (mini.py). Conditions: none. -/
import Derived.Test.YtjgpbhodbgjggaaGreatC1
import Derived.Test.YtjgpbhodbgjggaaGreatC2
set_option linter.defProp false
set_option linter.unusedVariables false
set_option linter.unusedSimpArgs false
set_option maxRecDepth 100000
namespace Go.Proofs.YtjgpbhodbgjggaaGreat.K
open Go
def wdF:Nat→Nat→Nat
 |0,_=>0
 |f+1,v=>if v=0 then 0 else wdF f (v / 2)+1
def wd (v:Nat):Nat:=wdF 32 v
theorem zik:∀f v,v< 2 ^ f→wdF (f+1) v=wdF f v
 |0,v,h=>by have:v=0:=by omega
            subst this;rfl
 |f+1,v,h=>by
  rw [wdF]
  conv=>rhs;rw [wdF]
  by_cases h0:v=0
  ·rw [if_pos h0,if_pos h0]
  ·rw [if_neg h0,if_neg h0,zik f (v / 2) (by rw [Nat.pow_succ] at h;omega)]
theorem zhq {v:Nat} (h0:0< v) (h:v< 2 ^ 32):wd v=wd (v / 2)+1:=by
 unfold wd
 rw [←zik 32 v h]
 rw [wdF,if_neg (by omega)]
theorem zmD:∀x:Fin 256,(bs [0,1,2,2,3,3,3,3,4,4,4,4,4,4,4,4,5,5,5,5,5,5,5,5,5,5,5,5,5,5,5,5,6,6,6,6,6,6,6,6,6,6,6,6,6,6,6,6,6,6,6,6,6,
 6,6,6,6,6,6,6,6,6,6,6,7,7,7,7,7,7,7,7,7,7,7,7,7,7,7,7,7,7,7,7,7,7,7,7,7,7,7,7,7,7,7,7,7,7,7,7,7,7,7,7,7,7,
 7,7,7,7,7,7,7,7,7,7,7,7,7,7,7,7,7,7,7,7,7,7,8,8,8,8,8,8,8,8,8,8,8,8,8,8,8,8,8,8,8,8,8,8,8,8,8,8,8,8,8,8,8,
 8,8,8,8,8,8,8,8,8,8,8,8,8,8,8,8,8,8,8,8,8,8,8,8,8,8,8,8,8,8,8,8,8,8,8,8,8,8,8,8,8,8,8,8,8,8,8,8,8,8,8,8,8,
 8,8,8,8,8,8,8,8,8,8,8,8,8,8,8,8,8,8,8,8,8,8,8,8,8,8,8,8,8,8,8,8,8,8,8,8,8,8,8,8,8,8,8,8]).data[x.val]? =some (UInt8.ofNat (wd x.val)):=by decide+kernel
theorem zph:∀x:Fin 256,wd x.val≤8:=by decide+kernel
theorem zoj:wd 0=0:=rfl
theorem zc5:∀f v,v< 2 ^ f→f≤32→0< v→0< wd v∧wd v≤f∧2 ^ (wd v - 1)≤v∧v< 2 ^ wd v
 |0,v,h,_,h0=>by omega
 |f+1,v,h,hf,h0=>by
  have h32:v< 2 ^ 32:=Nat.lt_of_lt_of_le h (Nat.pow_le_pow_right (by omega) hf)
  rw [zhq h0 h32]
  by_cases h1:v / 2=0
  ·have:v=1:=by omega
   subst this
   have:wd (1 / 2)=0:=rfl
   rw [this];simp
  ·obtain ⟨a,b,c,d⟩:=zc5 f (v / 2) (by rw [Nat.pow_succ] at h;omega) (by omega) (by omega)
   refine ⟨by omega,by omega,?_,?_⟩
   ·have:wd (v / 2)+1 - 1=(wd (v / 2) - 1)+1:=by omega
    rw [this,Nat.pow_succ];omega
   ·rw [Nat.pow_succ];omega
theorem zmE {v k:Nat} (h:v< 2 ^ 32) (hk:2 ^ k≤v):wd (v / 2 ^ k)+k=wd v:=by
 induction k generalizing v with
 |zero=>simp
 |succ k ih=>
  have h0:0< v:=Nat.lt_of_lt_of_le (Nat.two_pow_pos _) hk
  rw [zhq h0 h,Nat.pow_succ,Nat.mul_comm,←Nat.div_div_eq_div_mul]
  have:=ih (v:=v / 2) (by omega) (by rw [Nat.pow_succ] at hk;omega)
  omega
set_option maxHeartbeats 2000000
def grp (v:Nat):Bytes:=if v< 128 then [UInt8.ofNat v] else UInt8.ofNat (v % 128+128)::grp (v / 128)
termination_by v
decreasing_by omega
theorem zez {v:Nat} (h:v< 128):grp v= [UInt8.ofNat v]:=by rw [grp,if_pos h]
theorem zdv {v:Nat} (h:¬v< 128):grp v=UInt8.ofNat (v % 128+128)::grp (v / 128):=by rw [grp,if_neg h]
def pG:Nat→Bytes→Option (Nat×Bytes)
 |_,[]=>none
 |i,b::t=>if (i=9∧1< b.toNat)∨(0< i∧b.toNat=0) then none
  else if b.toNat< 128 then some (b.toNat,t) else (pG (i+1) t).map fun p=>(b.toNat % 128+128*p.1,p.2)
theorem pow128 (n:Nat):0< 128 ^ n:=Nat.pow_pos (by omega)
theorem zhr:∀(s:Bytes) (i v:Nat) (t:Bytes),pG i s=some (v,t)→s=grp v++t∧(0< i→0< v)
 | [],i,v,t,h=>by simp [pG] at h
 |b::s,i,v,t,h=>by
  have hb:=b.toNat_lt
  simp only [pG] at h
  split at h
  ·cases h
  ·rename_i hc
   split at h
   ·rename_i hl
    simp only [Option.some.injEq,Prod.mk.injEq] at h
    obtain ⟨rfl,rfl⟩:=h
    refine ⟨?_,fun hi=>by omega⟩
    rw [zez hl];simp
   ·rename_i hl
    simp only [Option.map_eq_some_iff,Prod.mk.injEq] at h
    obtain ⟨⟨w,r⟩,h1,h2,h3⟩:=h
    obtain ⟨q1,q2⟩:=zhr s (i+1) w r h1
    have:=q2 (by omega)
    subst h2;subst h3
    refine ⟨?_,fun _=>by omega⟩
    have e1:(b.toNat % 128+128*w) / 128=w:=by omega
    have e2:(b.toNat % 128+128*w) % 128+128=b.toNat:=by omega
    rw [zdv (by omega),e1,e2,List.cons_append,←q1];simp
theorem zql:∀(v i:Nat) (t:Bytes),i≤9→v*128 ^ i< 2 ^ 64→(0< i→0< v)→pG i (grp v++t)=some (v,t):=by
 intro v
 induction v using Nat.strongRecOn with
 |_ v ih=>
  intro i t hi hv hp
  have hpw:=pow128 i
  have h9:i=9→v< 2:=by
   intro e;subst e
   have e1:(128:Nat) ^ 9=9223372036854775808:=by decide
   have e2:(2:Nat) ^ 64=18446744073709551616:=by decide
   rw [e1,e2] at hv;omega
  by_cases h:v< 128
  ·have hn:(UInt8.ofNat v).toNat=v:=by simp;omega
   rw [zez h]
   simp only [List.cons_append,List.nil_append,pG,hn]
   rw [if_neg (by omega),if_pos h]
  ·have hn:(UInt8.ofNat (v % 128+128)).toNat=v % 128+128:=by simp;omega
   rw [zdv h]
   simp only [List.cons_append,pG,hn]
   have hi9:i≠9:=fun e=>by have:=h9 e;omega
   rw [if_neg (by omega),if_neg (by omega)]
   have hle:v / 128*128 ^ (i+1)≤v*128 ^ i:=by
    rw [Nat.pow_succ,←Nat.mul_assoc,Nat.mul_right_comm]
    exact Nat.mul_le_mul_right _ (Nat.div_mul_le_self v 128)
   rw [ih (v / 128) (by omega) (i+1) t (by omega) (by omega) (by omega)]
   simp only [Option.map_some,Option.some.injEq,Prod.mk.injEq,and_true]
   omega
theorem zfn (v:Nat):0< (grp v).length:=by
 by_cases h:v< 128
 ·rw [zez h];simp
 ·rw [zdv h];simp
theorem zka:∀(k v:Nat),v< 128 ^ k→0< k→(grp v).length≤k
 |0,v,h,h0=>by omega
 |k+1,v,h,_=>by
  by_cases hv:v< 128
  ·rw [zez hv];simp
  ·rw [zdv hv,List.length_cons]
   have:v / 128< 128 ^ k:=by
    rw [Nat.div_lt_iff_lt_mul (by omega),←Nat.pow_succ];exact h
   have hk:0< k:=by
    rcases Nat.eq_zero_or_pos k with h0|h0
    ·subst h0;simp at this;omega
    ·exact h0
   have:=zka k (v / 128) this hk
   omega
theorem zk0 {v:Nat} (h:v< 2 ^ 64):(grp v).length≤10:=zka 10 v (by
 have:(2:Nat) ^ 64≤128 ^ 10:=by decide
 omega) (by omega)
theorem zeA {s:Bytes} {i v:Nat} {t:Bytes}:pG i s=some (v,t)→i≤9→v*128 ^ i< 2 ^ 64:=by
 induction s generalizing i v t with
 |nil=>intro h;simp [pG] at h
 |cons b s ih=>
  intro h hi
  have hb:=b.toNat_lt
  simp only [pG] at h
  split at h
  ·cases h
  ·rename_i hc
   split at h
   ·rename_i hl
    simp only [Option.some.injEq,Prod.mk.injEq] at h
    obtain ⟨rfl,rfl⟩:=h
    have hd:∀j:Nat,j≤9→∀c,(j=9→c≤1)→c< 128→c*128 ^ j< 2 ^ 64:=by
     intro j hj c h1 h2
     by_cases e:j=9
     ·subst e
      have:c≤1:=h1 rfl
      have e1:(128:Nat) ^ 9=9223372036854775808:=by decide
      have e2:(2:Nat) ^ 64=18446744073709551616:=by decide
      rw [e1,e2];omega
     ·have h3:128 ^ j≤128 ^ 8:=Nat.pow_le_pow_right (by omega) (by omega)
      have e1:(128:Nat) ^ 8=72057594037927936:=by decide
      have e2:(2:Nat) ^ 64=18446744073709551616:=by decide
      have h4:c*128 ^ j≤127*128 ^ 8:=Nat.mul_le_mul (by omega) h3
      rw [e1] at h4
      rw [e2];omega
    exact hd i hi _ (fun e=>by omega) hl
   ·rename_i hl
    simp only [Option.map_eq_some_iff,Prod.mk.injEq] at h
    obtain ⟨⟨w,r⟩,h1,h2,h3⟩:=h
    have hi9:i≠9:=fun e=>hc (.inl ⟨e,by omega⟩)
    have:=ih h1 (by omega)
    subst h2
    rw [Nat.pow_succ] at this
    have e2:(2:Nat) ^ 64=128 ^ i*(2 ^ (64 - 7*i)):=by
     rw [show (128:Nat)=2 ^ 7 from by decide,←Nat.pow_mul,←Nat.pow_add];congr 1;omega
    have e3:(2:Nat) ^ (64 - 7*i)=128*2 ^ (57 - 7*i):=by
     rw [show (128:Nat)=2 ^ 7 from by decide,←Nat.pow_add];congr 1;omega
    have hpw:=pow128 i
    rw [e2,e3] at this⊢
    have h4:w< 2 ^ (57 - 7*i):=by
     have h5:(w*128)*128 ^ i< (2 ^ (57 - 7*i)*128)*128 ^ i:=by
      rw [Nat.mul_assoc,Nat.mul_comm 128 (128 ^ i),Nat.mul_comm (2 ^ (57 - 7*i)) 128,Nat.mul_comm (128*2 ^ (57 - 7*i))];exact this
     have:=Nat.lt_of_mul_lt_mul_right h5
     omega
    rw [Nat.mul_comm]
    exact Nat.mul_lt_mul_of_pos_left (by omega) hpw
theorem zji {s:Bytes} {i v:Nat} {t:Bytes} (h:pG i s=some (v,t)):t.length< s.length:=by
 have:=(zhr s i v t h).1
 have h2:=zfn v
 rw [this,List.length_append];omega
def zaz (l:Bytes) (bad:Bool):Option (Nat×Bytes):=if bad=true then none else pG 0 l
def gvN (o:Option (Nat×Bytes)):Nat:=match o with|some p=>p.1|none=>0
def grL (o:Option (Nat×Bytes)):Bytes:=match o with|some p=>p.2|none=> []
def zao (l:Bytes) (bad:Bool) (most:Nat):Option (Nat×Bytes):=(zaz l bad).bind fun p=>if p.1≤most then some p else none
def zas (l:Bytes) (bad:Bool) (most:Nat):Option (Bytes×Bytes):=(zao l bad most).bind fun p=>if p.1≤p.2.length then some (p.2.take p.1,p.2.drop p.1) else none
def txS (o:Option (Bytes×Bytes)):Bytes:=match o with|some p=>p.1|none=> []
def txL (o:Option (Bytes×Bytes)):Bytes:=match o with|some p=>p.2|none=> []
theorem zeb {s:Bytes} {m:Nat} {p:Nat×Bytes} (h:zao s false m=some p):p.1≤m∧p.2.length< s.length:=by
 unfold zao zaz at h
 simp only [Bool.false_eq_true,if_false] at h
 cases hp:pG 0 s with
 |none=>rw [hp] at h;simp at h
 |some q=>
  rw [hp] at h
  simp only [Option.bind_some] at h
  split at h
  ·cases h
   exact ⟨by assumption,zji hp⟩
  ·cases h
theorem zby {s:Bytes} {m:Nat} {p:Bytes×Bytes} (h:zas s false m=some p):p.1.length+p.2.length≤s.length:=by
 unfold zas zao zaz at h
 simp only [Bool.false_eq_true,if_false] at h
 cases hp:pG 0 s with
 |none=>rw [hp] at h;simp at h
 |some q=>
  rw [hp] at h
  have:=zji (v:=q.1) (t:=q.2) hp
  simp only [Option.bind_some] at h
  split at h
  ·simp only [Option.bind_some] at h
   split at h
   ·cases h
    simp;omega
   ·cases h
  ·simp at h
set_option maxHeartbeats 4000000
def exS:List Nat→Nat→List Nat
 | [],_=> []
 |n::t,s=>List.replicate n s++exS t (s+1)
theorem zhs:∀(sh:List Nat) s,(exS sh s).length=sh.sum
 | [],_=>rfl
 |n::t,s=>by simp [exS,zhs t]
theorem zmF:∀(sh:List Nat) s x,x∈exS sh s→s≤x
 | [],_,_,h=>by simp [exS] at h
 |n::t,s,x,h=>by
  simp only [exS,List.mem_append,List.mem_replicate] at h
  rcases h with ⟨_,rfl⟩|h
  ·omega
  ·have:=zmF t _ _ h;omega
theorem zmG:∀(sh:List Nat) s x,x∈exS sh s→x< s+sh.length
 | [],_,_,h=>by simp [exS] at h
 |n::t,s,x,h=>by
  simp only [exS,List.mem_append,List.mem_replicate] at h
  rcases h with ⟨_,rfl⟩|h
  ·simp
  ·have:=zmG t _ _ h;simp;omega
theorem zgN:∀(sh:List Nat) s x,s≤x→(exS sh s).count x=sh.getD (x - s) 0
 | [],_,_,_=>by simp [exS]
 |n::t,s,x,h=>by
  simp only [exS,List.count_append,List.count_replicate]
  by_cases h1:s=x
  ·subst h1
   have:(exS t (s+1)).count s=0:=List.count_eq_zero.mpr fun hm=>by have:=zmF _ _ _ hm;omega
   simp [this]
  ·rw [if_neg (by simpa using h1),zgN t (s+1) x (by omega)]
   have:x - s=(x - (s+1))+1:=by omega
   rw [this];simp
structure Fr (log:Nat) (sh:List Nat):Prop where
 lo:5≤log
 hi:log≤9
 sum:sh.sum=2 ^ log
 len:sh.length≤256
def zfr (log:Nat):Nat:=2 ^ log / 2+2 ^ log / 8+3
def ivp (log:Nat):Nat:=(List.range (2 ^ log)).findIdx fun k=>zfr log*k % 2 ^ log==1
theorem zmH {log:Nat} (h:5≤log) (h2:log≤9):zfr log*ivp log % 2 ^ log=1:=by
 have:∀l:Fin 5,zfr (l.val+5)*ivp (l.val+5) % 2 ^ (l.val+5)=1:=by decide+kernel
 have h3:=this ⟨log - 5,by omega⟩
 simp only at h3
 have h4:log - 5+5=log:=by omega
 rwa [h4] at h3
def zec (log p:Nat):Nat:=p*ivp log % 2 ^ log
theorem zkb (log p:Nat):zec log p< 2 ^ log:=Nat.mod_lt _ (Nat.two_pow_pos _)
theorem zkc {log:Nat} (h:5≤log) (h2:log≤9) {j:Nat} (hj:j< 2 ^ log):zec log (j*zfr log % 2 ^ log)=j:=by
 unfold zec
 rw [Nat.mod_mul_mod]
 rw [Nat.mul_assoc,Nat.mul_mod,zmH h h2,Nat.mul_one,Nat.mod_mod,Nat.mod_eq_of_lt hj]
theorem zga {log:Nat} (h:5≤log) (h2:log≤9) {p:Nat} (hp:p< 2 ^ log):zec log p*zfr log % 2 ^ log=p:=by
 unfold zec
 rw [Nat.mod_mul_mod,Nat.mul_assoc,Nat.mul_comm (ivp log),Nat.mul_mod,zmH h h2,Nat.mul_one,Nat.mod_mod,Nat.mod_eq_of_lt hp]
theorem zk1 {log:Nat} (h:5≤log) (h2:log≤9):((List.range (2 ^ log)).map (zec log)).Perm (List.range (2 ^ log)):=by
 refine (List.perm_ext_iff_of_nodup ?_ List.nodup_range).mpr fun a=>?_
 ·unfold List.Nodup
  rw [List.pairwise_map]
  refine List.Pairwise.imp_of_mem ?_ (List.nodup_range (n:=2 ^ log))
  intro a b ha hb hab he
  have h3:=zga h h2 (List.mem_range.mp ha)
  have h4:=zga h h2 (List.mem_range.mp hb)
  rw [he] at h3
  exact hab (h3.symm.trans h4)
 ·rw [List.mem_map,List.mem_range]
  constructor
  ·rintro ⟨p,_,rfl⟩;exact zkb _ _
  ·intro ha
   exact ⟨a*zfr log % 2 ^ log,List.mem_range.mpr (Nat.mod_lt _ (Nat.two_pow_pos _)),zkc h h2 ha⟩
def zaH (log:Nat) (sh:List Nat):List Nat:=(List.range (2 ^ log)).map fun p=>(exS sh 0).getD (zec log p) 0
theorem zdw (log:Nat) (sh:List Nat):(zaH log sh).length=2 ^ log:=by simp [zaH]
theorem zgO {log:Nat} {sh:List Nat} (hf:Fr log sh):(zaH log sh).Perm (exS sh 0):=by
 have h1:zaH log sh=((List.range (2 ^ log)).map (zec log)).map fun p=>(exS sh 0).getD p 0:=by simp [zaH,List.map_map,Function.comp_def]
 have h2:(List.range (2 ^ log)).map (fun p=>(exS sh 0).getD p 0)=exS sh 0:=by
  apply List.ext_getElem?
  intro i
  by_cases hi:i< 2 ^ log
  ·have hi':i< (exS sh 0).length:=by rw [zhs,hf.sum];exact hi
   rw [List.getElem?_map,List.getElem?_range hi]
   simp [List.getD,List.getElem?_eq_getElem hi']
  ·rw [List.getElem?_eq_none (by simp;omega),List.getElem?_eq_none (by rw [zhs,hf.sum];omega)]
 rw [h1]
 exact ((zk1 hf.lo hf.hi).map _).trans (by rw [h2])
theorem zjj {log:Nat} {sh:List Nat} (hf:Fr log sh) (s:Nat):(zaH log sh).count s=sh.getD s 0:=by
 rw [(zgO hf).count_eq,zgN sh 0 s (by omega)];rfl
theorem zkd {log:Nat} {sh:List Nat} (hf:Fr log sh) {s:Nat} (h:s∈zaH log sh):s< sh.length:=by
 have:=zmG sh 0 s ((zgO hf).mem_iff.mp h);omega
def rkT (l:List Nat) (p:Nat):Nat:=(l.take p).count (l.getD p 0)
theorem zgz {l:List Nat} {p s:Nat} (h:l[p]? =some s):(l.take p).count s< l.count s:=by
 have hp:p< l.length:=(List.getElem?_eq_some_iff.mp h).1
 have h1:l.take (p+1)=l.take p++ [s]:=by rw [List.take_add_one,h];rfl
 have h2:(l.take (p+1)).count s≤l.count s:=(List.take_sublist _ _).count_le _
 rw [h1,List.count_append] at h2
 simp at h2
 omega
theorem zgb {log:Nat} {sh:List Nat} (hf:Fr log sh) {p s:Nat} (h:(zaH log sh)[p]? =some s):((zaH log sh).take p).count s< sh.getD s 0:=by
 rw [←zjj hf];exact zgz h
def xT (log:Nat) (sh:List Nat) (p:Nat):Nat:=sh.getD ((zaH log sh).getD p 0) 0+rkT (zaH log sh) p
def zbr (log:Nat) (sh:List Nat) (p:Nat):Nat:=log+1 - wd (xT log sh p)
def zcJ (log:Nat) (sh:List Nat) (p:Nat):Nat:=xT log sh p*2 ^ zbr log sh p - 2 ^ log
section
variable {log:Nat} {sh:List Nat}
theorem zmI:∀(sh:List Nat) s,sh.getD s 0≤sh.sum
 | [],s=>by simp
 |n::t,0=>by simp
 |n::t,s+1=>by have:=zmI t s;simp at this⊢;omega
theorem zmJ (hf:Fr log sh) {p s:Nat} (h:(zaH log sh)[p]? =some s):xT log sh p=sh.getD s 0+((zaH log sh).take p).count s∧0< sh.getD s 0∧xT log sh p< 2*sh.getD s 0∧xT log sh p< 2 ^ (log+1):=by
 have h1:=zgb hf h
 have h2:(zaH log sh).getD p 0=s:=by simp [List.getD,h]
 have h3:=zmI sh s
 rw [hf.sum] at h3
 have h4:xT log sh p=sh.getD s 0+((zaH log sh).take p).count s:=by unfold xT rkT;rw [h2]
 refine ⟨h4,by omega,by omega,?_⟩
 rw [Nat.pow_succ];omega
theorem cell_of (hf:Fr log sh) {p s:Nat} (h:(zaH log sh)[p]? =some s):
  wd (xT log sh p)+zbr log sh p=log+1∧0< wd (xT log sh p)∧2 ^ log≤xT log sh p*2 ^ zbr log sh p∧(xT log sh p+1)*2 ^ zbr log sh p≤2 ^ (log+1):=by
 obtain ⟨h1,h2,h3,h4⟩:=zmJ hf h
 have:=hf.hi
 obtain ⟨a,b,c,d⟩:=zc5 (log+1) (xT log sh p) h4 (by omega) (by omega)
 have e:wd (xT log sh p)+zbr log sh p=log+1:=by unfold zbr;omega
 refine ⟨e,a,?_,?_⟩
 ·calc 2 ^ log=2 ^ (wd (xT log sh p) - 1)*2 ^ zbr log sh p:=by rw [←Nat.pow_add];congr 1;omega
  _≤_:=Nat.mul_le_mul_right _ c
 ·calc (xT log sh p+1)*2 ^ zbr log sh p≤2 ^ wd (xT log sh p)*2 ^ zbr log sh p:=Nat.mul_le_mul_right _ d
  _=2 ^ (log+1):=by rw [←Nat.pow_add,e]
theorem zgc (hf:Fr log sh) {p s:Nat} (h:(zaH log sh)[p]? =some s) {m:Nat} (hm:m< 2 ^ zbr log sh p):zcJ log sh p+2 ^ log=xT log sh p*2 ^ zbr log sh p∧zcJ log sh p+m< 2 ^ log:=by
 obtain ⟨_,_,h3,h4⟩:=cell_of hf h
 have h5:zcJ log sh p+2 ^ log=xT log sh p*2 ^ zbr log sh p:=by unfold zcJ;omega
 refine ⟨h5,?_⟩
 rw [Nat.add_mul,Nat.one_mul,Nat.pow_succ] at h4
 omega
end
structure BkT (log:Nat) (sh:List Nat) (st s p k v:Nat):Prop where
 hp:(zaH log sh)[p]? =some s
 hk:zbr log sh p=k
 hv:zcJ log sh p+v=st
 hlt:v< 2 ^ k
inductive zjk (log:Nat) (sh:List Nat):List Nat→Nat→Nat→Nat→Prop
 |nil:zjk log sh [] 0 0 0
 |cons {l V n st s p k v}:zjk log sh l V n st→BkT log sh st s p k v→zjk log sh (s::l) (V+v*2 ^ n) (n+k) p
def zbU (log:Nat) (sh:List Nat) (W:Nat):Nat→Nat→Nat→Option (List Nat×Nat×Nat)
 |0,st,n=>some ([],st,n)
 |m+1,st,n=>if zbr log sh st≤n then
   (zbU log sh W m (zcJ log sh st+W / 2 ^ (n - zbr log sh st) % 2 ^ zbr log sh st) (n - zbr log sh st)).map fun r=>((zaH log sh).getD st 0::r.1,r.2)
  else none
section
variable {log:Nat} {sh:List Nat}
theorem zjk.lt {l:List Nat} {V n st:Nat} (h:zjk log sh l V n st):V< 2 ^ n:=by
 induction h with
 |nil=>simp
 | @cons l V n st s p k v he hb ih=>
   have h1:(v+1)*2 ^ n≤2 ^ k*2 ^ n:=Nat.mul_le_mul_right _ hb.hlt
   have h2:2 ^ (n+k)=2 ^ k*2 ^ n:=by rw [Nat.pow_add,Nat.mul_comm]
   rw [h2]
   rw [Nat.add_mul,Nat.one_mul] at h1
   omega
theorem zjk.dec {l:List Nat} {V n st:Nat} (h:zjk log sh l V n st) {W:Nat} (hW:W % 2 ^ n=V):zbU log sh W l.length st n=some (l,0,0):=by
 induction h with
 |nil=>rfl
 | @cons l V n st s p k v he hb ih=>
   have hV:=he.lt
   have h1:W % 2 ^ n=V:=by
    have:W % 2 ^ (n+k) % 2 ^ n=W % 2 ^ n:=Nat.mod_mod_of_dvd _ (Nat.pow_dvd_pow 2 (by omega))
    rw [hW,Nat.add_mul_mod_self_right,Nat.mod_eq_of_lt hV] at this
    exact this.symm
   have h2:W / 2 ^ n % 2 ^ k=v:=by
    have h3:W % 2 ^ (n+k) / 2 ^ n=W / 2 ^ n % 2 ^ k:=by rw [Nat.pow_add,Nat.mod_mul_right_div_self]
    rw [hW,Nat.add_mul_div_right _ _ (Nat.two_pow_pos _),Nat.div_eq_of_lt hV,Nat.zero_add] at h3
    exact h3.symm
   have h4:n+k - k=n:=by omega
   simp only [List.length_cons,zbU]
   rw [if_pos (by rw [hb.hk];omega),hb.hk,h4,h2,hb.hv,ih h1]
   simp [List.getD,hb.hp]
theorem zil {W:Nat}:∀m st n {r},zbU log sh W m st n=some r→r.1.length=m
 |0,_,_,r,h=>by simp [zbU] at h;subst h;rfl
 |m+1,st,n,r,h=>by
  simp only [zbU] at h
  split at h
  ·rw [Option.map_eq_some_iff] at h
   obtain ⟨q,h1,rfl⟩:=h
   simp [zil m _ _ h1]
  ·cases h
end
set_option maxHeartbeats 2000000
def nby (V j:Nat):Nat:=V / 2 ^ (8*j) % 256
def zpi (V n:Nat):Bytes:=(List.range ((n+7) / 8)).map fun j=>UInt8.ofNat (nby V j)
theorem zmK {c d n:Nat} (hc:c< 2 ^ n) (hd:d< 2 ^ n) (h:∀k,k< n→c / 2 ^ k % 2=d / 2 ^ k % 2):c=d:=by
 apply Nat.eq_of_testBit_eq
 intro k
 rcases Nat.lt_or_ge k n with hk|hk
 ·rw [Nat.testBit_eq_decide_div_mod_eq,Nat.testBit_eq_decide_div_mod_eq,h k hk]
 ·have hp:2 ^ n≤2 ^ k:=Nat.pow_le_pow_right (by omega) hk
  rw [Nat.testBit_lt_two_pow (by omega),Nat.testBit_lt_two_pow (by omega)]
set_option maxHeartbeats 4000000
def zct (b:Bytes):Nat:=zav b 0 (8*b.length)
theorem zke {b:Bytes} {a k:Nat} (h:a+k≤8*b.length):zct b / 2 ^ a % 2 ^ k=zav b a k:=by
 have e:8*b.length=a+(k+(8*b.length - a - k)):=by omega
 unfold zct
 rw [e,zce,zce,Nat.zero_add]
 have h1:=za6 b 0 a
 have h2:=za6 b a k
 rw [Nat.add_mul_div_right _ _ (Nat.two_pow_pos _),Nat.div_eq_of_lt h1,Nat.zero_add,Nat.add_mul_mod_self_right,Nat.mod_eq_of_lt h2]
def hdD (s:Bytes):Nat→Nat→Nat→Option (List Nat×Nat)
 |f,0,a=>some ([],a)
 |0,_+1,_=>none
 |f+1,r+1,a=>if wd (r+1)≤8*s.length - a∧zav s a (wd (r+1))≤r+1 then (hdD s f (r+1 - zav s a (wd (r+1))) (a+wd (r+1))).map fun p=>(zav s a (wd (r+1))::p.1,p.2) else none
def opN (b:Bytes):Option Nat:=match b.getLast? with
 |none=>none
 |some x=>if x.toNat=0 then none else some (8*(b.length - 1)+wd x.toNat - 1)
def zcu (log:Nat) (sh:List Nat) (b:Bytes) (m:Nat):Option (List Nat):=(opN b).bind fun n=>
 if log≤n then (zbU log sh (zct b) m (zav b (n - log) log) (n - log)).bind fun r=>if r.2.1=0∧r.2.2=0 then some r.1 else none else none
structure Sqt where
 l:Int
 m:Int
 o:Int
def cpN (b:Bytes) (o:Nat):Nat→Bytes
 |0=>b
 |n+1=>cpN b o n++ [(cpN b o n).getD ((cpN b o n).length - o) 0]
theorem zeB (b:Bytes) (o:Nat):∀n,(cpN b o n).length=b.length+n
 |0=>rfl
 |n+1=>by simp [cpN,zeB b o n];omega
def zjl (D lim:Nat) (b lits:Bytes) (s:Sqt):Option (Bytes×Bytes):=
 if s.l< 0∨(lits.length:Int)< s.l then none
 else if (lim:Int)+D< b.length+s.l then none
 else if s.m< 3∨s.o< 1∨(b.length:Int)+s.l< s.o then none
 else if (lim:Int)+D< b.length+s.l+s.m then none
 else some (cpN (b++lits.take s.l.toNat) s.o.toNat s.m.toNat,lits.drop s.l.toNat)
def exF (D lim:Nat):Bytes→Bytes→List Sqt→Option Bytes
 |b,lits,[]=>if lim+D< b.length+lits.length then none else some ((b++lits).drop D)
 |b,lits,s::t=>match zjl D lim b lits s with
  |none=>none
  |some r=>exF D lim r.1 r.2 t
def cdN (c:Nat):Nat:=if c< 16 then 0 else c - 12
def cdV (c m:Nat):Nat:=if c< 16 then c else 2 ^ (c - 12)+m
structure Rct where
 a:Int
 b:Int
 c:Int
def rcN (r:Rct) (o:Int):Int:=if r.a=o then 0 else if r.b=o then 1 else if r.c=o then 2 else o+2
def rcB (r:Rct) (o:Int):Rct:=if r.a=o then ⟨o,r.b,r.c⟩ else if r.b=o then ⟨o,r.a,r.c⟩ else ⟨o,r.a,r.b⟩
def rcX (r:Rct) (n:Int):Int:=if n=0 then r.a else if n=1 then r.b else if n=2 then r.c else n - 2
def rcO (r:Rct) (n:Int):Option Int:=if 1≤rcX r n∧rcX r n≤65533∧rcN r (rcX r n)=n then some (rcX r n) else none
def vlD (s:Bytes) (c a:Nat):Option (Nat×Nat):=if cdN c≤8*s.length - a then some (cdV c (zav s a (cdN c)),a+cdN c) else none
def stD (s:Bytes) (c:Nat×Nat×Nat) (r:Rct) (a:Nat):Option (Sqt×Rct×Nat):=
 (vlD s c.1 a).bind fun x=>(vlD s c.2.1 x.2).bind fun y=>(vlD s c.2.2 y.2).bind fun z=>
  (rcO r z.1).map fun o=>(⟨x.1,y.1+3,o⟩,rcB r o,z.2)
def ssD (s:Bytes):List (Nat×Nat×Nat)→Rct→Nat→Option (List Sqt×Nat)
 | [],_,a=>some ([],a)
 |c::t,r,a=>(stD s c r a).bind fun x=>(ssD s t x.2.1 x.2.2).map fun y=>(x.1::y.1,y.2)
def ended (s:Bytes) (a:Nat):Prop:=8*s.length - a< 8∧zav s a (8*s.length - a)=0
instance (s:Bytes) (a:Nat):Decidable (ended s a):=by unfold ended;infer_instance
def hdT (s:Bytes):Option (List Nat×Nat):=if 3≤8*s.length∧zav s 0 3+5≤9 then
  (hdD s 256 (2 ^ (zav s 0 3+5)) 3).bind fun p=>if ended s p.2 then some (p.1,zav s 0 3+5) else none
 else none
def shD (s:Bytes) (n:Nat):Option (Bytes×Bytes):=(zas s false 4096).bind fun h=>(zas h.2 false 4096).bind fun b=>
 (hdT h.1).bind fun p=>(zcu p.2 p.1 b.1 n).map fun l=>(l.map UInt8.ofNat,b.2)
def chk28 (p:Bytes×Bytes):Option (Bytes×Bytes):=if p.1.all (fun c=>c.toNat< 28) then some p else none
def unS (s:Bytes) (n:Nat):Option (Bytes×Bytes):=if 4096< n then none else match s with
 | []=>none
 |k::u=>if k.toNat=0 then (if n≤u.length then chk28 (u.take n,u.drop n) else none)
  else if k.toNat=1 then (match u with| []=>none|x::w=>if x.toNat< 28 then some (List.replicate n x,w) else none)
  else if k.toNat=2 then (shD u n).bind chk28 else none
def z3:Bytes→Bytes→Bytes→List (Nat×Nat×Nat)
 |a::l,b::m,c::n=>(a.toNat,b.toNat,c.toNat)::z3 l m n
 |_,_,_=> []
def rc0:Rct:=⟨1,2,4⟩
def zgA (s:Bytes) (lim:Nat):Option (List Sqt×Bytes):=(zao s false (min lim 1000)).bind fun p=>
 if p.1=0 then some ([],p.2) else (unS p.2 p.1).bind fun a=>(unS a.2 p.1).bind fun b=>(unS b.2 p.1).bind fun c=>
  (zas c.2 false 4096).bind fun t=>(ssD t.1 (z3 a.1 b.1 c.1) rc0 0).bind fun r=>if ended t.1 r.2 then some (r.1,t.2) else none
set_option maxHeartbeats 2000000
theorem zqm {l:List Int} (hall:∀k,0≤at0 l k∧at0 l k≤11) {i k:Nat} (hi:i< l.length) (hk:k< l.length) (h1:0< at0 l i) (h2:0< at0 l k) (h3:at0 l i≤at0 l k) (hne:i≠k):
  (codeOf l k).fdiv (p2 (at0 l k - at0 l i).toNat)≠codeOf l i:=by
 have hp2:=p2_pos (at0 l k - at0 l i).toNat
 rw [Int.fdiv_eq_ediv_of_nonneg _ (by omega)]
 obtain ⟨_,ei⟩:=zc4 hi h1 (hall i).2
 obtain ⟨_,ek⟩:=zc4 hk h2 (hall k).2
 have hpk:=zbb (at0 l k)
 have hpi:=zbb (at0 l i)
 have hpart:part (at0 l i)=p2 (at0 l k - at0 l i).toNat*part (at0 l k):=by
  unfold part
  rw [←p2_add]
  congr 1
  have:=hall k
  omega
 have hck:0≤codeOf l k:=by
  rcases Int.lt_or_le (codeOf l k) 0 with h|h
  ·have:=Int.mul_neg_of_neg_of_pos h hpk
   have:=zb4 l (at0 l k) k
   omega
  ·exact h
 intro he
 have hlo:codeOf l i*p2 (at0 l k - at0 l i).toNat≤codeOf l k:=by rw [←he];exact Int.ediv_mul_le _ (by omega)
 have hhi:codeOf l k< (codeOf l i+1)*p2 (at0 l k - at0 l i).toNat:=by rw [←he];exact Int.lt_ediv_add_one_mul_self _ hp2
 have hlo':ahead l (at0 l i) i≤ahead l (at0 l k) k:=by
  rw [←ei,←ek,hpart,←Int.mul_assoc]
  exact Int.mul_le_mul_of_nonneg_right hlo (by omega)
 have hhi':ahead l (at0 l k) k< ahead l (at0 l i) i+part (at0 l i):=by
  have:=Int.mul_lt_mul_of_pos_right hhi hpk
  rw [ek,Int.mul_assoc,←hpart,Int.add_mul,ei,Int.one_mul] at this
  exact this
 rcases Int.lt_or_le (at0 l i) (at0 l k) with h|h
 ·have:=zf9 hi h1 (.inl h)
  omega
 ·have heq:at0 l i=at0 l k:=by omega
  rcases Nat.lt_or_ge i k with hik|hik
  ·have:=zf9 hi h1 (.inr ⟨heq,hik⟩)
   omega
  ·have:=zf9 hk h2 (.inr ⟨heq.symm,by omega⟩)
   omega
theorem zok {l:List Int} (hall:∀k,0≤at0 l k∧at0 l k≤11) {i:Nat} (hi:i< l.length) (h1:0< at0 l i) (ht:total l≤2048):0≤codeOf l i∧codeOf l i< p2 (at0 l i).toNat:=by
 obtain ⟨_,ei⟩:=zc4 hi h1 (hall i).2
 have hpi:=zbb (at0 l i)
 have he:=zkZ hi h1
 have hn:=zb4 l (at0 l i) i
 constructor
 ·rcases Int.lt_or_le (codeOf l i) 0 with h|h
  ·have:=Int.mul_neg_of_neg_of_pos h hpi
   omega
  ·exact h
 ·rcases Int.lt_or_le (codeOf l i) (p2 (at0 l i).toNat) with h|h
  ·exact h
  ·have h2:p2 (at0 l i).toNat*part (at0 l i)≤codeOf l i*part (at0 l i):=Int.mul_le_mul_of_nonneg_right h (by omega)
   have h3:p2 (at0 l i).toNat*part (at0 l i)=2048:=by
    unfold part
    rw [←p2_add]
    have:=hall i
    have:(at0 l i).toNat+(11 - at0 l i).toNat=11:=by omega
    rw [this];decide
   omega
end Go.Proofs.YtjgpbhodbgjggaaGreat.K
