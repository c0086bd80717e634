/- A part of the proof of PBatchSplits, made small by a program of this work (mini.py). Conditions: none. -/
import Derived.Test.YtjgpbhodbgjggaaGreatA2
set_option linter.defProp false
set_option linter.unusedVariables false
set_option linter.unusedSimpArgs false
namespace Go.Proofs.YtjgpbhodbgjggaaGreat.K
open Go
def tot (l:List Bytes):Nat:=(l.map List.length).sum
theorem zeb (l m:List Bytes):tot (l++m)=tot l+tot m:=by simp [tot]
def spS (k:Nat) (p:List (List Bytes)×List Bytes) (s:Bytes):List (List Bytes)×List Bytes:=
 if p.2.length=100∨k< tot p.2+s.length then (p.1++ [p.2],[s]) else (p.1,p.2++ [s])
def spF (k:Nat) (l:List Bytes):List (List Bytes)×List Bytes:=l.foldl (spS k) ([],[])
theorem zfP (k:Nat) (l:List Bytes) (s:Bytes):spF k (l++ [s])=spS k (spF k l) s:=by simp [spF]
def spE (p:List (List Bytes)×List Bytes):List (List Bytes):=if p.2= [] then p.1 else p.1++ [p.2]
structure Gd (k:Nat) (G:List (List Bytes)):Prop where
 one:∀b∈G,b≠ []∧b.length≤100∧tot b≤k
 two:∀(i:Nat) (last b:List Bytes) (s:Bytes),G[i]? =some last→G[i+1]? =some b→b[0]? =some s→¬(last.length< 100∧tot last+s.length≤k)
structure SpP (k:Nat) (l:List Bytes) (p:List (List Bytes)×List Bytes):Prop where
 nil:p.2= []→p.1= []
 gd:Gd k (spE p)
 fl:(spE p).flatten=l
theorem zds {α:Type} {G:List α} {x y:α} {i:Nat} (h:(G++ [x])[i]? =some y):G[i]? =some y∨i=G.length∧y=x:=by
 rcases Nat.lt_or_ge i G.length with hi|hi
 ·rw [List.getElem?_append_left hi] at h;exact .inl h
 ·rw [List.getElem?_append_right hi] at h
  obtain ⟨j,hj⟩:∃j,j=i - G.length:=⟨_,rfl⟩
  rw [←hj] at h
  cases j with
  |zero=>simp at h;exact .inr ⟨by omega,h.symm⟩
  |succ j=>simp at h
theorem SpP.step {k:Nat} {l:List Bytes} {p:List (List Bytes)×List Bytes} (h:SpP k l p) {s:Bytes} (hs:s.length≤k):SpP k (l++ [s]) (spS k p s):=by
 obtain ⟨out,now⟩:=p
 have hg:=h.gd
 have hf:=h.fl
 have hn:=h.nil
 unfold spE at hg hf
 simp only at hg hf hn
 have ts:tot [s]=s.length:=by simp [tot]
 by_cases h0:now= []
 ·subst h0
  obtain rfl:=hn rfl
  simp at hf
  subst hf
  have hc:¬((0:Nat)=100∨k< tot []+s.length):=by simp [tot];omega
  unfold spS
  simp only [List.length_nil]
  rw [if_neg hc]
  refine ⟨by simp,⟨?_,?_⟩,by simp [spE]⟩
  ·intro b hb
   simp [spE] at hb
   subst hb
   exact ⟨by simp,by simp,by omega⟩
  ·intro i last b x h1 h2 h3
   simp [spE] at h2
 ·rw [if_neg h0] at hg hf
  unfold spS
  simp only
  by_cases hc:now.length=100∨k< tot now+s.length
  ·rw [if_pos hc]
   have he:spE (out++ [now],[s])=(out++ [now])++ [[s]]:=by simp [spE]
   refine ⟨by simp,?_,by rw [he,List.flatten_append,hf];simp⟩
   rw [he]
   refine ⟨fun b hb=>?_,fun i last b x h1 h2 h3=>?_⟩
   ·rcases List.mem_append.1 hb with hb|hb
    ·exact hg.one b hb
    ·simp at hb;subst hb
     exact ⟨by simp,by simp,by omega⟩
   ·rcases zds h2 with h2|⟨q,rfl⟩
    ·have hi:=(List.getElem?_eq_some_iff.1 h2).1
     rw [List.getElem?_append_left (by omega)] at h1
     exact hg.two i last b x h1 h2 h3
    ·simp at q
     subst q
     rw [List.getElem?_append_left (by simp),List.getElem?_append_right (by omega)] at h1
     simp at h1 h3
     subst h1;subst h3
     omega
  ·rw [if_neg hc]
   have he:spE (out,now++ [s])=out++ [now++ [s]]:=by simp [spE]
   refine ⟨by simp,?_,by rw [he];simp at hf;simp [←hf]⟩
   rw [he]
   obtain ⟨q1,q2,q3⟩:=hg.one now (by simp)
   refine ⟨fun b hb=>?_,fun i last b x h1 h2 h3=>?_⟩
   ·rcases List.mem_append.1 hb with hb|hb
    ·exact hg.one b (by simp [hb])
    ·simp at hb;subst hb
     refine ⟨by simp,by simp;omega,?_⟩
     rw [zeb,ts];omega
   ·rcases zds h2 with h2|⟨q,rfl⟩
    ·have hi:=(List.getElem?_eq_some_iff.1 h2).1
     rw [List.getElem?_append_left (by omega)] at h1
     exact hg.two i last b x (by rw [List.getElem?_append_left (by omega)];exact h1) (by rw [List.getElem?_append_left (by omega)];exact h2) h3
    ·rw [List.getElem?_append_left (by omega)] at h1
     have hp:0< now.length:=List.length_pos_iff.2 h0
     rw [List.getElem?_append_left hp] at h3
     exact hg.two i last now x (by rw [List.getElem?_append_left (by omega)];exact h1) (by rw [q,List.getElem?_append_right (by omega)];simp) h3
theorem zfl (k:Nat):∀(n:Nat) (l:List Bytes),l.length=n→(∀s∈l,s.length≤k)→SpP k l (spF k l)
 |0,l,hn,_=>by
  obtain rfl:=List.eq_nil_of_length_eq_zero hn
  refine ⟨fun _=>rfl,⟨by simp [spF,spE],by simp [spF,spE]⟩,by simp [spF,spE]⟩
 |n+1,l,hn,h=>by
  have hne:l≠ []:=by intro h;subst h;simp at hn
  have hd:=List.dropLast_concat_getLast hne
  rw [←hd,zfP]
  exact (zfl k n l.dropLast (by simp;omega) fun s hs=>h s (List.dropLast_subset l hs)).step (h _ (List.getLast_mem hne))
end Go.Proofs.YtjgpbhodbgjggaaGreat.K
