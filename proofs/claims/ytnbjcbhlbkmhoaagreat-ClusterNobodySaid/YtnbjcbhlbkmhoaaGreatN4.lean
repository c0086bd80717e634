/- A part of the proof of PClusterNobody, made small by a program of this work (mini.py). Conditions: none. -/
import Derived.Test.YtnbjcbhlbkmhoaaGreatRows
import Derived.Shelf.Strings.Repeat
import Derived.Shelf.Strings.BuilderK
import Derived.TacticsIn
import Derived.TacticsInMore
import Derived.LoopIn
import Derived.LoopNIn
import Derived.WalkKit
import Derived.RegionIn
import Derived.Maps.RangeWalk
import Derived.Test.YtnbjcbhlbkmhoaaGreatN3
import Derived.Test.YtnbjcbhlbkmhoaaGreatN2
set_option linter.defProp false
set_option linter.unusedVariables false
set_option linter.unusedSimpArgs false
set_option maxRecDepth 100000
set_option maxHeartbeats 4000000
namespace Go.Proofs.YtnbjcbhlbkmhoaaGreat.K
open Go Go.Proofs Go.Shelf Go.RowKit
def zay:Go.Shelf.Ren:=⟨fun|105=>226|212=>249|99=>250|165=>111|166=>112|170=>251|169=>113|263=>269|264=>270|206=>271|240=>144|241=>145|276=>179|277=>180|n=>n,fun|9=>9|3=>3|4=>4|20=>20|0=>0|46=>229|109=>286|5=>5|72=>150|76=>154|51=>272|146=>307|53=>95|148=>309|70=>148|37=>65|75=>153|127=>191|164=>221|80=>128|n=>n,fun|n=>n⟩
theorem zaO:Go.Proofs.Lays.n105 Go.Proofs.Tryz.prog zay:={
 mixed:=by kernel_rfl
 f99:=Go.Proofs.Tryz.func250.trans (congrArg some (by kernel_rfl))
 f105:=Go.Proofs.Tryz.func226.trans (congrArg some (by kernel_rfl))
 f165:=Go.Proofs.Tryz.func111.trans (congrArg some (by kernel_rfl))
 f166:=Go.Proofs.Tryz.func112.trans (congrArg some (by kernel_rfl))
 f169:=Go.Proofs.Tryz.func113.trans (congrArg some (by kernel_rfl))
 f170:=Go.Proofs.Tryz.func251.trans (congrArg some (by kernel_rfl))
 f206:=Go.Proofs.Tryz.func271.trans (congrArg some (by kernel_rfl))
 f212:=Go.Proofs.Tryz.func249.trans (congrArg some (by kernel_rfl))
 f240:=Go.Proofs.Tryz.func144.trans (congrArg some (by kernel_rfl))
 f241:=Go.Proofs.Tryz.func145.trans (congrArg some (by kernel_rfl))
 f263:=Go.Proofs.Tryz.func269.trans (congrArg some (by kernel_rfl))
 f264:=Go.Proofs.Tryz.func270.trans (congrArg some (by kernel_rfl))
 f276:=Go.Proofs.Tryz.func179.trans (congrArg some (by kernel_rfl))
 f277:=Go.Proofs.Tryz.func180.trans (congrArg some (by kernel_rfl))
 t0:=Go.Proofs.Tryz.underlying0
 a0:=Go.Proofs.Tryz.isAgg0
 z0:=Go.Proofs.Tryz.sizeOf0
 v0:=Go.Proofs.Tryz.zeroValue0
 t3:=Go.Proofs.Tryz.underlying3
 a3:=Go.Proofs.Tryz.isAgg3
 z3:=Go.Proofs.Tryz.sizeOf3
 v3:=Go.Proofs.Tryz.zeroValue3
 t4:=Go.Proofs.Tryz.underlying4
 a4:=Go.Proofs.Tryz.isAgg4
 z4:=Go.Proofs.Tryz.sizeOf4
 v4:=Go.Proofs.Tryz.zeroValue4
 t5:=Go.Proofs.Tryz.underlying5
 a5:=Go.Proofs.Tryz.isAgg5
 z5:=Go.Proofs.Tryz.sizeOf5
 v5:=Go.Proofs.Tryz.zeroValue5
 t9:=Go.Proofs.Tryz.underlying9
 a9:=Go.Proofs.Tryz.isAgg9
 z9:=Go.Proofs.Tryz.sizeOf9
 v9:=Go.Proofs.Tryz.zeroValue9
 t20:=Go.Proofs.Tryz.underlying20
 a20:=Go.Proofs.Tryz.isAgg20
 z20:=Go.Proofs.Tryz.sizeOf20
 v20:=Go.Proofs.Tryz.zeroValue20
 t37:=Go.Proofs.Tryz.underlying65
 a37:=Go.Proofs.Tryz.isAgg65
 z37:=Go.Proofs.Tryz.sizeOf65
 v37:=Go.Proofs.Tryz.zeroValue65
 t46:=Go.Proofs.Tryz.underlying229
 a46:=Go.Proofs.Tryz.isAgg229
 z46:=Go.Proofs.Tryz.sizeOf229
 v46:=Go.Proofs.Tryz.zeroValue229
 t51:=Go.Proofs.Tryz.underlying272
 a51:=Go.Proofs.Tryz.isAgg272
 z51:=Go.Proofs.Tryz.sizeOf272
 v51:=Go.Proofs.Tryz.zeroValue272
 t53:=Go.Proofs.Tryz.underlying95
 a53:=Go.Proofs.Tryz.isAgg95
 z53:=Go.Proofs.Tryz.sizeOf95
 v53:=Go.Proofs.Tryz.zeroValue95
 t70:=Go.Proofs.Tryz.underlying148
 a70:=Go.Proofs.Tryz.isAgg148
 z70:=Go.Proofs.Tryz.sizeOf148
 v70:=Go.Proofs.Tryz.zeroValue148
 t72:=Go.Proofs.Tryz.underlying150
 a72:=Go.Proofs.Tryz.isAgg150
 z72:=Go.Proofs.Tryz.sizeOf150
 v72:=Go.Proofs.Tryz.zeroValue150
 t75:=Go.Proofs.Tryz.underlying153
 a75:=Go.Proofs.Tryz.isAgg153
 z75:=Go.Proofs.Tryz.sizeOf153
 v75:=Go.Proofs.Tryz.zeroValue153
 t76:=Go.Proofs.Tryz.underlying154
 a76:=Go.Proofs.Tryz.isAgg154
 z76:=Go.Proofs.Tryz.sizeOf154
 v76:=Go.Proofs.Tryz.zeroValue154
 t109:=Go.Proofs.Tryz.underlying286
 a109:=Go.Proofs.Tryz.isAgg286
 z109:=Go.Proofs.Tryz.sizeOf286
 v109:=Go.Proofs.Tryz.zeroValue286
 t127:=Go.Proofs.Tryz.underlying191
 a127:=Go.Proofs.Tryz.isAgg191
 z127:=Go.Proofs.Tryz.sizeOf191
 v127:=Go.Proofs.Tryz.zeroValue191
 t146:=Go.Proofs.Tryz.underlying307
 a146:=Go.Proofs.Tryz.isAgg307
 z146:=Go.Proofs.Tryz.sizeOf307
 v146:=Go.Proofs.Tryz.zeroValue307
 t148:=Go.Proofs.Tryz.underlying309
 a148:=Go.Proofs.Tryz.isAgg309
 z148:=Go.Proofs.Tryz.sizeOf309
 v148:=Go.Proofs.Tryz.zeroValue309
 t164:=Go.Proofs.Tryz.underlying221
 a164:=Go.Proofs.Tryz.isAgg221
 z164:=Go.Proofs.Tryz.sizeOf221
 v164:=Go.Proofs.Tryz.zeroValue221}
theorem zcC:Builder.Extra Go.Proofs.Tryz.prog zay:={
 sizeBuilder:=by kernel_rfl
 liesBuilder:=by kernel_rfl
 t5:=zaO.t5
 a5:=zaO.a5
 z5:=zaO.z5
 v5:=zaO.v5
 infoByte:=by kernel_rfl
 cellsByte:=by kernel_rfl
 sizeByte:=by kernel_rfl
 neB5:=by decide}
theorem zh6:zay.f 105=226:=by kernel_rfl
def zeS:List Value→Heap→Option (Value×Heap)
 | [.string s,.int .i64 n],H=>if 0≤n∧(s.size:Int)*n≤1000000000∧n≤1000000000 then some (.string ⟨(Lib.repeatL s.data.toList n.toNat).toArray⟩,H) else none
 |_,_=>none
theorem zjz:zbc Go.Proofs.Tryz.prog 226 zeS:=by
 refine ⟨by kernel_rfl,?_⟩
 intro B w0 args H v H' h ρ w cargs hrel hv
 unfold zeS at h
 split at h
 ·rename_i s n
  split at h
  ·rename_i hc
   obtain ⟨c,rfl⟩:∃c:Nat,n=(c:Int):=⟨n.toNat,by omega⟩
   simp only [Option.some.injEq,Prod.mk.injEq] at h
   obtain ⟨rfl,rfl⟩:=h
   obtain ⟨y,hy,h1⟩:=hv.get (i:=0) rfl
   obtain ⟨z,hz,h2⟩:=hv.get (i:=1) rfl
   obtain ⟨hl,-⟩:=hv
   obtain ⟨y',z',rfl⟩:∃y' z',cargs= [y',z']:=by
    match cargs,hl with
    | [a,b],_=>exact ⟨a,b,rfl⟩
   simp at hy hz
   subst hy;subst hz
   cases h1;cases h2
   have hcn:s.size*c≤1000000000:=by
    have:=hc.2.1
    rw [←Int.natCast_mul] at this
    omega
   have hr:=Any.strings_Repeat zaO zcC s c w (by omega) (by omega)
   rw [zh6] at hr
   refine hr.mono fun e w' ⟨he,hb⟩=>⟨ρ,_,he,List.prefix_refl _,?_,hrel.world ⟨hb.os,hb.tape,hb.output,hb.size,fun k hk=>hb.block k (hrel.base k hk)⟩ hb.block⟩
   rw [Int.toNat_natCast]
   constructor
  ·cases h
 ·cases h
def zfh:List UInt8→List (Int×Int×Int)→List UInt8
 |t,[]=>t
 |t,s::l=>t.take s.1.toNat++zfh ((t.drop s.1.toNat).drop s.2.1.toNat) l
def sq3c (l:List (Int×Int×Int)):List Value:=l.flatMap fun s=> [.int .i64 s.1,.int .i64 s.2.1,.int .i64 s.2.2]
def mN (n:Nat):Value→Nat
 | .int _ x=>n - x.toNat
 |_=>0
theorem zf2 {T e:TypeId} {B b:Nat} {bs:List Value} {w:World} (h:Lib.IsBuilderF T e B b bs w) (o:Obj):Lib.IsBuilderF T e B b bs (w.alloc o):=by
 have key:∀p,Lib.BuilderAtF T e B b p bs w→Lib.BuilderAtF T e B b p bs (w.alloc o):=by
  rintro p ⟨h1,v,h2,h3,h4⟩
  have keep:∀{g:Nat} {x:Obj},w.heap[g]? =some x→(w.alloc o).heap[g]? =some x:=fun {g x} hg=>(Below.heap_alloc _ _ _ (Array.getElem?_eq_some_iff.1 hg).1).trans hg
  refine ⟨h1,v,keep h2,⟨h3.1,?_⟩,h4⟩
  rcases h3.2 with h5|⟨g,cap,cur,fz,a1,a2,a3,a4⟩
  ·exact .inl h5
  ·exact .inr ⟨g,cap,cur,fz,a1,a2,keep a3,a4⟩
 exact h.imp (key _) (key _)
theorem zdq (t:ByteArray) (m:Nat) (hm:t.size=m) (x:Int):(t.extract (min (max x 0) (m:Int)).toNat m).data.toList=t.data.toList.drop x.toNat:=by
 subst hm
 rw [Lib.extract_data]
 obtain ⟨l,hl⟩:∃l,l=t.data.toList:=⟨_,rfl⟩
 rw [←hl]
 have hsz:t.size=l.length:=by rw [hl];exact Lib.size_eq t
 rw [hsz,List.take_of_length_le (by simp)]
 rcases Nat.lt_or_ge x.toNat l.length with h|h
 ·congr 1;omega
 ·rw [List.drop_eq_nil_of_le (by omega),List.drop_eq_nil_of_le (by omega)]
theorem zhg (t:ByteArray) (x:Int):(t.extract 0 (min (max x 0) (t.size:Int)).toNat).data.toList=t.data.toList.take x.toNat:=by
 rw [Lib.extract_data]
 obtain ⟨l,hl⟩:∃l,l=t.data.toList:=⟨_,rfl⟩
 rw [←hl]
 have hsz:t.size=l.length:=by rw [hl];exact Lib.size_eq t
 rw [hsz,List.drop_zero,Nat.sub_zero]
 rcases Nat.lt_or_ge x.toNat l.length with h|h
 ·congr 1;omega
 ·rw [List.take_of_length_le (by omega),List.take_of_length_le (by omega)]
theorem zkq (text:ByteArray) (hts:text.size≤1000000) (ss:List (Int×Int×Int)) (hn:ss.length≤1000000) (a:Option Addr) (k:Nat) (W:World)
  (hsv:ss= []∨∃b o,a=some ⟨b,o,none⟩∧b< W.heap.size∧∀(j:Nat) v,(sq3c ss)[j]? =some v→W.cell? ⟨b,o+j,none⟩=some v):
  Calls Go.Proofs.Tryz.prog 213 #[.string text,.slice a ss.length k] W fun e w'=>e= .returned (.string ⟨(zfh text.data.toList ss).toArray⟩)∧Below W.heap.size W w':=by
 have mixed:Go.Proofs.Tryz.prog.follows .mixedOrders=true:=by kernel_rfl
 have t108:=Go.Proofs.Tryz.underlying241;have a108:=Go.Proofs.Tryz.isAgg241;have z108:=Go.Proofs.Tryz.sizeOf241;have v108:=Go.Proofs.Tryz.zeroValue241
 have t155:=Go.Proofs.Tryz.underlying260;have a155:=Go.Proofs.Tryz.isAgg260;have z155:=Go.Proofs.Tryz.sizeOf260;have v155:=Go.Proofs.Tryz.zeroValue260
 have t142:=Go.Proofs.Tryz.underlying150;have a142:=Go.Proofs.Tryz.isAgg150;have z142:=Go.Proofs.Tryz.sizeOf150;have v142:=Go.Proofs.Tryz.zeroValue150
 have t3:=Go.Proofs.Tryz.underlying3;have a3:=Go.Proofs.Tryz.isAgg3;have z3:=Go.Proofs.Tryz.sizeOf3;have v3:=Go.Proofs.Tryz.zeroValue3
 have t4:=Go.Proofs.Tryz.underlying4;have a4:=Go.Proofs.Tryz.isAgg4;have z4:=Go.Proofs.Tryz.sizeOf4;have v4:=Go.Proofs.Tryz.zeroValue4
 have t9:=Go.Proofs.Tryz.underlying9;have a9:=Go.Proofs.Tryz.isAgg9;have z9:=Go.Proofs.Tryz.sizeOf9;have v9:=Go.Proofs.Tryz.zeroValue9
 have u108:=run_underlying t108;have u155:=run_underlying t155;have u142:=run_underlying t142;have u3:=run_underlying t3;have u4:=run_underlying t4;have u9:=run_underlying t9
 have hnt:Go.Proofs.Tryz.f213.ntmps=40:=by kernel_rfl
 have e99:∀args w,(callFunc 112 args).run Go.Proofs.Tryz.prog w= .ok (.enter 112 args) w:=enters_of Go.Proofs.Tryz.func112 (by kernel_rfl) rfl
 have e100:∀args w,(callFunc 113 args).run Go.Proofs.Tryz.prog w= .ok (.enter 113 args) w:=enters_of Go.Proofs.Tryz.func113 (by kernel_rfl) rfl
 go_enter Go.Proofs.Tryz.func213,hnt
 go_wp2
 have b0:Below W.heap.size W (W.alloc (.cells #[.pointer none,.slice none 0 0] 150)):=(Below.refl _ W).alloc (Nat.le_refl _) _
 have h00:Lib.IsBuilderF (zay.t 72) (zay.t 5) W.heap.size W.heap.size (Lib.byteCells []) (W.alloc (.cells #[.pointer none,.slice none 0 0] 150)):=by
  exact .inl ⟨Nat.le_refl _,_,heap_alloc_new W _,⟨rfl,.inl ⟨rfl,rfl⟩⟩,by simp [Value.ownBlock]⟩
 go_loopw [0,11] (fun s0 s11 wx=>∃(i:Nat) (t:ByteArray) (dn:List UInt8),i≤ss.length∧s11= .int .i64 i∧s0= .string t∧zfh text.data.toList ss=dn++zfh t.data.toList (ss.drop i)∧dn.length+t.size≤text.size∧Lib.IsBuilderF (zay.t 72) (zay.t 5) W.heap.size W.heap.size (Lib.byteCells dn) wx∧Below W.heap.size W wx)
  (fun s0 s11 wx=>mN ss.length s11)
 case atStart=>exact ⟨0,text,[],by omega,rfl,rfl,rfl,by simp,h00,b0⟩
 case round=>
  obtain ⟨i,t,dn,hi,rfl,rfl,hlit,hsz,hB,hb⟩:=hrel
  by_cases hin:i=ss.length
  ·subst hin
   have cW:=Any.Builder_WriteString_f {zaO with} zcC W.heap.size W.heap.size (Lib.byteCells dn) t wr hB (by rw [Lib.byteCells_length];omega) hb.size
   go_wp2_with (go_at_fn 112;go_fit cW;rintro e W2 ⟨rfl,h2,b2⟩)
   rw [Lib.strCells_eq,←Lib.byteCells_append] at h2
   have cS:=Any.Builder_String_any_f {zaO with} zcC W.heap.size W.heap.size (dn++t.data.toList) W2 (.inr h2) (Nat.le_trans hb.size b2.size)
   go_wp2_with (go_at_fn 113;go_fit cS;rintro e W3 ⟨rfl,h3,b3⟩)
   go_ret
   refine ⟨?_,hb.trans (b2.trans b3)⟩
   rw [hlit,List.drop_length];rfl
  ·rcases hsv with rfl|⟨b,o,rfl,hbl,hcell⟩
   ·simp at hi;simp at hin;omega
   have hlt:i< ss.length:=by omega
   obtain ⟨x,hx⟩:∃x,ss[i]? =some x:=⟨ss[i],List.getElem?_eq_getElem hlt⟩
   obtain ⟨x1,x2,x3⟩:=x
   have hcl:∀j,j< 3→wr.cell? ⟨b,o+i*3+j,none⟩=([Value.int .i64 x1,.int .i64 x2,.int .i64 x3][j]?):=by
    intro j hj
    have h1:(sq3c ss)[i*3+j]? = [Value.int .i64 x1,.int .i64 x2,.int .i64 x3][j]? :=zeI (z:=3) (fun _=>rfl) hx hj
    obtain ⟨v,hv⟩:∃v,[Value.int .i64 x1,.int .i64 x2,.int .i64 x3][j]? =some v:=⟨_,List.getElem?_eq_getElem (by simpa using hj)⟩
    rw [hv] at h1⊢
    have h2:=hcell _ _ h1
    rw [Nat.add_assoc]
    exact (hb.cell hbl).trans h2
   have c0:=hcl 0 (by omega);have c1:=hcl 1 (by omega);have c2:=hcl 2 (by omega)
   simp only [List.getElem?_cons_zero,List.getElem?_cons_succ,Nat.add_zero] at c0 c1 c2
   clear hcl hcell
   obtain ⟨w1,hw1⟩:∃w1,w1=wr.alloc (.cells #[.int .i64 x1,.int .i64 x2,.int .i64 x3] 260):=⟨_,rfl⟩
   have hnw:w1.heap[wr.heap.size]? =some (.cells #[.int .i64 x1,.int .i64 x2,.int .i64 x3] 260):=by rw [hw1];exact heap_alloc_new wr _
   have cW:=Any.Builder_WriteString_k {zaO with} zcC W.heap.size W.heap.size (Lib.byteCells dn) (t.extract 0 (min (max x1 0) (t.size:Int)).toNat) w1 (by rw [hw1];exact zf2 hB _) (by rw [Lib.byteCells_length,Lib.size_eq,Lib.extract_data];simp;omega) (by rw [hw1,World.size_alloc];exact Nat.le_succ_of_le hb.size)
   have hbw:Below W.heap.size W w1:=by rw [hw1];exact hb.alloc hb.size _
   have hne:wr.heap.size≠W.heap.size:=by
    intro h
    obtain ⟨g,hg⟩:∃g:Obj,wr.heap[W.heap.size]? =some g:=by
     rcases hB with h|h<;>obtain ⟨_,v,h2,_⟩:=h<;>exact ⟨_,h2⟩
    have:=(Array.getElem?_eq_some_iff.1 hg).1
    omega
   have hk2:some wr.heap.size≠some W.heap.size:=fun e=>hne (Option.some.inj e)
   have hk3:∀c fz,Obj.cells #[.int .i64 x1,.int .i64 x2,.int .i64 x3] 260≠ .cells c (zay.t 5) fz:=by
    intro c fz h
    injection h with _ h1 _
    exact absurd h1 (by decide)
   rw [hw1] at cW hnw
   go_wp2_with (go_at_fn 112;go_fit cW;(rintro e W2 ⟨rfl,h2,b2,k2⟩;have hl2:W2.heap[wr.heap.size]? =some (.cells #[.int .i64 x1,.int .i64 x2,.int .i64 x3] 260):=k2 _ _ hnw hk2 hk3;have d1:W2.cell? ⟨wr.heap.size,1,none⟩=some (.int .i64 x2):=by simp [World.cell?,hl2]))
   have hA:(t.extract (min (max x1 0) (t.size:Int)).toNat t.size).size=t.size - (min (max x1 0) (t.size:Int)).toNat:=by
    rw [Lib.size_eq,zdq t _ rfl,List.length_drop,←Lib.size_eq]
    omega
   have hu:((t.extract (min (max x1 0) (t.size:Int)).toNat t.size).extract (min (max x2 0) ((t.size - (min (max x1 0) (t.size:Int)).toNat:Nat):Int)).toNat (t.size - (min (max x1 0) (t.size:Int)).toNat)).data.toList=(t.data.toList.drop x1.toNat).drop x2.toNat:=by
    rw [zdq _ _ hA,zdq t _ rfl]
   rw [Lib.strCells_eq,←Lib.byteCells_append,zhg] at h2
   refine ⟨⟨i+1,_,dn++t.data.toList.take x1.toNat,by omega,rfl,rfl,?_,?_,.inr h2,hbw.trans (by rw [hw1];exact b2)⟩,by simp only [mN];omega⟩
   ·rw [hlit,hu,List.drop_eq_getElem_cons hlt,show ss[i]=(x1,x2,x3) from Option.some.inj ((List.getElem?_eq_getElem hlt).symm.trans hx)]
    simp only [zfh,List.append_assoc]
   ·rw [Lib.size_eq,hu]
    have:=Lib.size_eq t
    simp only [List.length_append,List.length_take,List.length_drop]
    omega
def bkM:Value→Nat
 | .int _ x=>(x+1).toNat
 |_=>0
theorem zhh:zdi Go.Proofs.Tryz.prog 337:=by
 refine ⟨by kernel_rfl,?_⟩
 intro l c n J Jx W hn hsl hJ hround
 obtain ⟨a0,k0,hc0⟩:=hsl
 have mixed:Go.Proofs.Tryz.prog.follows .mixedOrders=true:=by kernel_rfl
 have t95:=Go.Proofs.Tryz.underlying65;have a95:=Go.Proofs.Tryz.isAgg65;have z95:=Go.Proofs.Tryz.sizeOf65;have v95:=Go.Proofs.Tryz.zeroValue65
 have t3:=Go.Proofs.Tryz.underlying3;have a3:=Go.Proofs.Tryz.isAgg3;have z3:=Go.Proofs.Tryz.sizeOf3;have v3:=Go.Proofs.Tryz.zeroValue3
 have t5:=Go.Proofs.Tryz.underlying5;have a5:=Go.Proofs.Tryz.isAgg5;have z5:=Go.Proofs.Tryz.sizeOf5;have v5:=Go.Proofs.Tryz.zeroValue5
 have t4:=Go.Proofs.Tryz.underlying4;have a4:=Go.Proofs.Tryz.isAgg4;have z4:=Go.Proofs.Tryz.sizeOf4;have v4:=Go.Proofs.Tryz.zeroValue4
 have u95:=run_underlying t95;have u3:=run_underlying t3;have u5:=run_underlying t5;have u4:=run_underlying t4
 have hnt:Go.Proofs.Tryz.f337.ntmps=19:=by kernel_rfl
 refine callsIn_of_wp Go.Proofs.Tryz.func337 rfl trivial ?_ rfl
 simp only [hnt,List.size_toArray,List.length_cons,List.length_nil,Nat.reduceAdd,Nat.reduceSub,Array.replicate_succ,Array.replicate_zero,List.push_toArray,List.append_toArray,List.nil_append,List.cons_append]
 gi_wp2
 gi_loopw [3] (fun s wx=>∃i:Nat,i≤n∧((i=0∧s= .int .i64 (-1))∨∃j:Nat,i=j+1∧s= .int .i64 j)∧J i wx) (fun s wx=>bkM s)
 case atStart=>
  refine ⟨n,Nat.le_refl _,?_,hJ⟩
  cases n with
  |zero=>exact .inl ⟨rfl,rfl⟩
  |succ m=>refine .inr ⟨m,rfl,?_⟩;congr 1;omega
 case round=>
  obtain ⟨i,hi,hs,hJi⟩:=hrel
  rcases hs with ⟨rfl,rfl⟩|⟨j,rfl,rfl⟩
  ·gi_wp2
   go_end0
   exact ⟨⟨_,rfl⟩,.inl hJi⟩
  ·obtain ⟨a1,n',k1,x,hc1,hin,hsp,hx,fn,tmps,assign,body,hy,hR⟩:=hround j _ (by omega) hJi
   obtain ⟨ab,ao,sp⟩:=a1
   simp only at hsp
   subst hsp
   gi_wp2
   refine hR.mono ?_
   rintro e W3 (⟨rfl,hJ3⟩|⟨rfl,hJx3⟩)
   ·gi_wp2
    go_roundw
    case rel=>
     refine ⟨j,by omega,?_,hJ3⟩
     cases j with
     |zero=>exact .inl ⟨rfl,by congr 1⟩
     |succ m=>refine .inr ⟨m,rfl,?_⟩;congr 1;omega
    case measure=>simp only [bkM];omega
   ·gi_wp2
    refine bodyPost_ret (results_none rfl _ _ _) rfl ?_
    exact ⟨⟨_,rfl⟩,.inr hJx3⟩
def sq3:List Value→Option (List (Int×Int×Int))
 | []=>some []
 | .int .i64 a:: .int .i64 b:: .int .i64 c::l=>(sq3 l).map ((a,b,c)::·)
 |_=>none
theorem sq3_ok:∀(cs:List Value) {ss:List (Int×Int×Int)},sq3 cs=some ss→cs=sq3c ss
 | [],ss,h=>by simp [sq3] at h;subst h;rfl
 | .int .i64 a:: .int .i64 b:: .int .i64 c::l,ss,h=>by
   simp only [sq3,Option.map_eq_some_iff] at h
   obtain ⟨s2,h2,rfl⟩:=h
   rw [sq3_ok l h2];rfl
theorem sq3c_len (ss:List (Int×Int×Int)):(sq3c ss).length=ss.length*3:=zeH (z:=3) (fun _=>rfl) ss
def zf3:List Value→Heap→Option (Value×Heap)
 | [.string text,.slice a n c],H=>if text.size≤1000000∧n≤1000000 then (zbz H 260 3 n a).bind fun cs=>(sq3 cs).map fun ss=>(.string ⟨(zfh text.data.toList ss).toArray⟩,H) else none
 |_,_=>none
theorem zjA:zbc Go.Proofs.Tryz.prog 213 zf3:=by
 refine ⟨by kernel_rfl,?_⟩
 intro B w0 args H v H' h ρ w cargs hrel hv
 unfold zf3 at h
 split at h
 ·rename_i text a n c
  split at h
  ·rename_i hc
   simp only [Option.bind_eq_some_iff,Option.map_eq_some_iff,Prod.mk.injEq] at h
   obtain ⟨cs,hcs,ss,hss,rfl,rfl⟩:=h
   obtain rfl:=sq3_ok cs hss
   obtain ⟨y,hy,h1⟩:=hv.get (i:=0) rfl
   obtain ⟨z,hz,h2⟩:=hv.get (i:=1) rfl
   obtain ⟨hl,-⟩:=hv
   obtain ⟨y',z',rfl⟩:∃y' z',cargs= [y',z']:=by
    match cargs,hl with
    | [a,b],_=>exact ⟨a,b,rfl⟩
   simp at hy hz
   subst hy;subst hz
   cases h1
   obtain ⟨hl1,a',c',rfl,l',hvl,hl2,ho,hcell⟩:=zcp hrel h2 hcs
   have hnl:ss.length=n:=by rw [sq3c_len] at hl1;omega
   have hgnd:∀(i:Nat) v,(sq3c ss)[i]? =some v→∃k,v= .int .i64 k:=by
    intro i v hv
    have:=List.mem_of_getElem? hv
    simp only [sq3c,List.mem_flatMap,List.mem_cons,List.not_mem_nil,or_false] at this
    obtain ⟨s,_,rfl|rfl|rfl⟩:=this<;>exact ⟨_,rfl⟩
   have hl':∀(j:Nat) v,(sq3c ss)[j]? =some v→l'[j]? =some v:=by
    intro j v hj
    obtain ⟨y,hy,hvy⟩:=hvl.get hj
    obtain ⟨k,rfl⟩:=hgnd j v hj
    cases hvy
    exact hy
   have hw:=zkq text hc.1 ss (by omega) a' c' w (by
    rcases hcell with ⟨_,h0⟩|⟨b',rfl,hcell⟩
    ·exact .inl (List.eq_nil_of_length_eq_zero (by omega))
    ·by_cases h0:ss= []
     ·exact .inl h0
     ·have hpos:0< (sq3c ss).length:=by
       rw [sq3c_len]
       have:0< ss.length:=by cases ss with|nil=>exact absurd rfl h0|cons=>simp
       omega
      have c0:=hcell 0 _ (hl' 0 _ (List.getElem?_eq_getElem hpos))
      obtain ⟨hsp,arr,tw,fr,hh,_⟩:=zfZ c0
      obtain ⟨bb,oo,sp⟩:=b'
      cases sp with
      |some s=>cases hsp
      |none=>
       refine .inr ⟨bb,oo,rfl,(Array.getElem?_eq_some_iff.1 hh).1,fun j v hj=>?_⟩
       have:=hcell j v (hl' j v hj)
       rwa [Addr.add_lit] at this)
   rw [hnl] at hw
   refine hw.mono fun e w' ⟨he,hb⟩=>⟨ρ,_,he,List.prefix_refl _,.string _,hrel.world ⟨hb.os,hb.tape,hb.output,hb.size,fun k hk=>hb.block k (hrel.base k hk)⟩ hb.block⟩
  ·cases h
 ·cases h
def R0:FuncId→Option (List Value→Heap→Option (Value×Heap)):=fun f=>if f=226 then some zeS else if f=213 then some zf3 else none
theorem zix:∀f p,R0 f=some p→zbc Go.Proofs.Tryz.prog f p:=fun f p h=>by
 unfold R0 at h
 split at h
 ·rename_i hf
  cases h;subst hf;exact zjz
 ·split at h
  ·rename_i hf
   cases h;subst hf;exact zjA
  ·cases h
def Bk:FuncId→Bool:=fun f=>f==337
theorem zhi:∀f,Bk f=true→zdi Go.Proofs.Tryz.prog f:=fun f h=>by
 have:=eq_of_beq h
 subst this
 exact zhh
end Go.Proofs.YtnbjcbhlbkmhoaaGreat.K
namespace Go.Proofs.YtnbjcbhlbkmhoaaGreat.K
open Go Go.Proofs
def s3 (S:Sys) (a0 a1:Value) (H:Heap) (R:Kv):Prop:=(⟨_,by
 simp only[k3,w1,sub,List.map,Option.map,↓reduceIte,Nat.reduceEqDiff]
 exact rfl⟩:Yw k3 S [a0,a1] H R).1
theorem w3 {S:Sys} (x:S.R 3=none) (y:S.F 3=some k3) (a0 a1:Value) {H:Heap} {R:Kv} (h:s3 S a0 a1 H R):Wf S 3 [a0,a1] H R:=Wz x y (@Subtype.property Prop (fun p=>wpC S k3.body _ H _=p) _) h
def s5_0 (S:Sys) (e:Fe) (H:Heap) (Q:Kx):Prop:=(⟨_,by
 simp only[b5_0,w1,sub,List.map,Option.map,↓reduceIte,Nat.reduceEqDiff]
 exact rfl⟩:Yb b5_0 S e H Q).1
theorem h5_0 (S:Sys) (e:Fe) (H:Heap) (Q:Kx):wpC S b5_0 e H Q=s5_0 S e H Q:=@Subtype.property Prop (fun p=>wpC S b5_0 e H Q=p) _
def l5_0 (S:Sys) {Q:Kx}:=@WLi b5_0 s5_0 h5_0 S Q
def s5 (S:Sys) (a0:Value) (H:Heap) (R:Kv):Prop:=(⟨_,by
 simp only[k5,w1,sub,List.map,Option.map,↓reduceIte,Nat.reduceEqDiff]
 exact rfl⟩:Yw k5 S [a0] H R).1
theorem w5 {S:Sys} (x:S.R 5=none) (y:S.F 5=some k5) (a0:Value) {H:Heap} {R:Kv} (h:s5 S a0 H R):Wf S 5 [a0] H R:=Wz x y (@Subtype.property Prop (fun p=>wpC S k5.body _ H _=p) _) h
def s6 (S:Sys) (a0 a1:Value) (H:Heap) (R:Kv):Prop:=(⟨_,by
 simp only[k6,w1,sub,List.map,Option.map,↓reduceIte,Nat.reduceEqDiff]
 exact rfl⟩:Yw k6 S [a0,a1] H R).1
theorem w6 {S:Sys} (x:S.R 6=none) (y:S.F 6=some k6) (a0 a1:Value) {H:Heap} {R:Kv} (h:s6 S a0 a1 H R):Wf S 6 [a0,a1] H R:=Wz x y (@Subtype.property Prop (fun p=>wpC S k6.body _ H _=p) _) h
def s7 (S:Sys) (a0 a1:Value) (H:Heap) (R:Kv):Prop:=(⟨_,by
 simp only[k7,w1,sub,List.map,Option.map,↓reduceIte,Nat.reduceEqDiff]
 exact rfl⟩:Yw k7 S [a0,a1] H R).1
theorem w7 {S:Sys} (x:S.R 7=none) (y:S.F 7=some k7) (a0 a1:Value) {H:Heap} {R:Kv} (h:s7 S a0 a1 H R):Wf S 7 [a0,a1] H R:=Wz x y (@Subtype.property Prop (fun p=>wpC S k7.body _ H _=p) _) h
def s8 (S:Sys) (a0:Value) (H:Heap) (R:Kv):Prop:=(⟨_,by
 simp only[k8,w1,sub,List.map,Option.map,↓reduceIte,Nat.reduceEqDiff]
 exact rfl⟩:Yw k8 S [a0] H R).1
theorem w8 {S:Sys} (x:S.R 8=none) (y:S.F 8=some k8) (a0:Value) {H:Heap} {R:Kv} (h:s8 S a0 H R):Wf S 8 [a0] H R:=Wz x y (@Subtype.property Prop (fun p=>wpC S k8.body _ H _=p) _) h
def s9 (S:Sys) (a0:Value) (H:Heap) (R:Kv):Prop:=(⟨_,by
 simp only[k9,w1,sub,List.map,Option.map,↓reduceIte,Nat.reduceEqDiff]
 exact rfl⟩:Yw k9 S [a0] H R).1
theorem w9 {S:Sys} (x:S.R 9=none) (y:S.F 9=some k9) (a0:Value) {H:Heap} {R:Kv} (h:s9 S a0 H R):Wf S 9 [a0] H R:=Wz x y (@Subtype.property Prop (fun p=>wpC S k9.body _ H _=p) _) h
def s10 (S:Sys) (a0:Value) (H:Heap) (R:Kv):Prop:=(⟨_,by
 simp only[k10,w1,sub,List.map,Option.map,↓reduceIte,Nat.reduceEqDiff]
 exact rfl⟩:Yw k10 S [a0] H R).1
theorem w10 {S:Sys} (x:S.R 10=none) (y:S.F 10=some k10) (a0:Value) {H:Heap} {R:Kv} (h:s10 S a0 H R):Wf S 10 [a0] H R:=Wz x y (@Subtype.property Prop (fun p=>wpC S k10.body _ H _=p) _) h
def s11 (S:Sys) (a0:Value) (H:Heap) (R:Kv):Prop:=(⟨_,by
 simp only[k11,w1,sub,List.map,Option.map,↓reduceIte,Nat.reduceEqDiff]
 exact rfl⟩:Yw k11 S [a0] H R).1
theorem w11 {S:Sys} (x:S.R 11=none) (y:S.F 11=some k11) (a0:Value) {H:Heap} {R:Kv} (h:s11 S a0 H R):Wf S 11 [a0] H R:=Wz x y (@Subtype.property Prop (fun p=>wpC S k11.body _ H _=p) _) h
def s12 (S:Sys) (a0:Value) (H:Heap) (R:Kv):Prop:=(⟨_,by
 simp only[k12,w1,sub,List.map,Option.map,↓reduceIte,Nat.reduceEqDiff]
 exact rfl⟩:Yw k12 S [a0] H R).1
theorem w12 {S:Sys} (x:S.R 12=none) (y:S.F 12=some k12) (a0:Value) {H:Heap} {R:Kv} (h:s12 S a0 H R):Wf S 12 [a0] H R:=Wz x y (@Subtype.property Prop (fun p=>wpC S k12.body _ H _=p) _) h
def s13 (S:Sys) (a0:Value) (H:Heap) (R:Kv):Prop:=(⟨_,by
 simp only[k13,w1,sub,List.map,Option.map,↓reduceIte,Nat.reduceEqDiff]
 exact rfl⟩:Yw k13 S [a0] H R).1
theorem w13 {S:Sys} (x:S.R 13=none) (y:S.F 13=some k13) (a0:Value) {H:Heap} {R:Kv} (h:s13 S a0 H R):Wf S 13 [a0] H R:=Wz x y (@Subtype.property Prop (fun p=>wpC S k13.body _ H _=p) _) h
def s14 (S:Sys) (a0 a1:Value) (H:Heap) (R:Kv):Prop:=(⟨_,by
 simp only[k14,w1,sub,List.map,Option.map,↓reduceIte,Nat.reduceEqDiff]
 exact rfl⟩:Yw k14 S [a0,a1] H R).1
theorem w14 {S:Sys} (x:S.R 14=none) (y:S.F 14=some k14) (a0 a1:Value) {H:Heap} {R:Kv} (h:s14 S a0 a1 H R):Wf S 14 [a0,a1] H R:=Wz x y (@Subtype.property Prop (fun p=>wpC S k14.body _ H _=p) _) h
def s15 (S:Sys) (a0 a1:Value) (H:Heap) (R:Kv):Prop:=(⟨_,by
 simp only[k15,w1,sub,List.map,Option.map,↓reduceIte,Nat.reduceEqDiff]
 exact rfl⟩:Yw k15 S [a0,a1] H R).1
theorem w15 {S:Sys} (x:S.R 15=none) (y:S.F 15=some k15) (a0 a1:Value) {H:Heap} {R:Kv} (h:s15 S a0 a1 H R):Wf S 15 [a0,a1] H R:=Wz x y (@Subtype.property Prop (fun p=>wpC S k15.body _ H _=p) _) h
def s16 (S:Sys) (a0 a1:Value) (H:Heap) (R:Kv):Prop:=(⟨_,by
 simp only[k16,w1,sub,List.map,Option.map,↓reduceIte,Nat.reduceEqDiff]
 exact rfl⟩:Yw k16 S [a0,a1] H R).1
theorem w16 {S:Sys} (x:S.R 16=none) (y:S.F 16=some k16) (a0 a1:Value) {H:Heap} {R:Kv} (h:s16 S a0 a1 H R):Wf S 16 [a0,a1] H R:=Wz x y (@Subtype.property Prop (fun p=>wpC S k16.body _ H _=p) _) h
def s17 (S:Sys) (a0 a1:Value) (H:Heap) (R:Kv):Prop:=(⟨_,by
 simp only[k17,w1,sub,List.map,Option.map,↓reduceIte,Nat.reduceEqDiff]
 exact rfl⟩:Yw k17 S [a0,a1] H R).1
theorem w17 {S:Sys} (x:S.R 17=none) (y:S.F 17=some k17) (a0 a1:Value) {H:Heap} {R:Kv} (h:s17 S a0 a1 H R):Wf S 17 [a0,a1] H R:=Wz x y (@Subtype.property Prop (fun p=>wpC S k17.body _ H _=p) _) h
def s18 (S:Sys) (a0 a1:Value) (H:Heap) (R:Kv):Prop:=(⟨_,by
 simp only[k18,w1,sub,List.map,Option.map,↓reduceIte,Nat.reduceEqDiff]
 exact rfl⟩:Yw k18 S [a0,a1] H R).1
theorem w18 {S:Sys} (x:S.R 18=none) (y:S.F 18=some k18) (a0 a1:Value) {H:Heap} {R:Kv} (h:s18 S a0 a1 H R):Wf S 18 [a0,a1] H R:=Wz x y (@Subtype.property Prop (fun p=>wpC S k18.body _ H _=p) _) h
def s19 (S:Sys) (a0 a1:Value) (H:Heap) (R:Kv):Prop:=(⟨_,by
 simp only[k19,w1,sub,List.map,Option.map,↓reduceIte,Nat.reduceEqDiff]
 exact rfl⟩:Yw k19 S [a0,a1] H R).1
theorem w19 {S:Sys} (x:S.R 19=none) (y:S.F 19=some k19) (a0 a1:Value) {H:Heap} {R:Kv} (h:s19 S a0 a1 H R):Wf S 19 [a0,a1] H R:=Wz x y (@Subtype.property Prop (fun p=>wpC S k19.body _ H _=p) _) h
def s20 (S:Sys) (a0 a1:Value) (H:Heap) (R:Kv):Prop:=(⟨_,by
 simp only[k20,w1,sub,List.map,Option.map,↓reduceIte,Nat.reduceEqDiff]
 exact rfl⟩:Yw k20 S [a0,a1] H R).1
theorem w20 {S:Sys} (x:S.R 20=none) (y:S.F 20=some k20) (a0 a1:Value) {H:Heap} {R:Kv} (h:s20 S a0 a1 H R):Wf S 20 [a0,a1] H R:=Wz x y (@Subtype.property Prop (fun p=>wpC S k20.body _ H _=p) _) h
def s21 (S:Sys) (a0 a1:Value) (H:Heap) (R:Kv):Prop:=(⟨_,by
 simp only[k21,w1,sub,List.map,Option.map,↓reduceIte,Nat.reduceEqDiff]
 exact rfl⟩:Yw k21 S [a0,a1] H R).1
theorem w21 {S:Sys} (x:S.R 21=none) (y:S.F 21=some k21) (a0 a1:Value) {H:Heap} {R:Kv} (h:s21 S a0 a1 H R):Wf S 21 [a0,a1] H R:=Wz x y (@Subtype.property Prop (fun p=>wpC S k21.body _ H _=p) _) h
def s22 (S:Sys) (a0 a1:Value) (H:Heap) (R:Kv):Prop:=(⟨_,by
 simp only[k22,w1,sub,List.map,Option.map,↓reduceIte,Nat.reduceEqDiff]
 exact rfl⟩:Yw k22 S [a0,a1] H R).1
theorem w22 {S:Sys} (x:S.R 22=none) (y:S.F 22=some k22) (a0 a1:Value) {H:Heap} {R:Kv} (h:s22 S a0 a1 H R):Wf S 22 [a0,a1] H R:=Wz x y (@Subtype.property Prop (fun p=>wpC S k22.body _ H _=p) _) h
def s23 (S:Sys) (a0 a1:Value) (H:Heap) (R:Kv):Prop:=(⟨_,by
 simp only[k23,w1,sub,List.map,Option.map,↓reduceIte,Nat.reduceEqDiff]
 exact rfl⟩:Yw k23 S [a0,a1] H R).1
theorem w23 {S:Sys} (x:S.R 23=none) (y:S.F 23=some k23) (a0 a1:Value) {H:Heap} {R:Kv} (h:s23 S a0 a1 H R):Wf S 23 [a0,a1] H R:=Wz x y (@Subtype.property Prop (fun p=>wpC S k23.body _ H _=p) _) h
def s24 (S:Sys) (a0 a1 a2:Value) (H:Heap) (R:Kv):Prop:=(⟨_,by
 simp only[k24,w1,sub,List.map,Option.map,↓reduceIte,Nat.reduceEqDiff]
 exact rfl⟩:Yw k24 S [a0,a1,a2] H R).1
theorem w24 {S:Sys} (x:S.R 24=none) (y:S.F 24=some k24) (a0 a1 a2:Value) {H:Heap} {R:Kv} (h:s24 S a0 a1 a2 H R):Wf S 24 [a0,a1,a2] H R:=Wz x y (@Subtype.property Prop (fun p=>wpC S k24.body _ H _=p) _) h
def s25 (S:Sys) (H:Heap) (R:Kv):Prop:=(⟨_,by
 simp only[k25,w1,sub,List.map,Option.map,↓reduceIte,Nat.reduceEqDiff]
 exact rfl⟩:Yw k25 S [] H R).1
theorem w25 {S:Sys} (x:S.R 25=none) (y:S.F 25=some k25) {H:Heap} {R:Kv} (h:s25 S H R):Wf S 25 [] H R:=Wz x y (@Subtype.property Prop (fun p=>wpC S k25.body _ H _=p) _) h
def s26 (S:Sys) (H:Heap) (R:Kv):Prop:=(⟨_,by
 simp only[k26,w1,sub,List.map,Option.map,↓reduceIte,Nat.reduceEqDiff]
 exact rfl⟩:Yw k26 S [] H R).1
theorem w26 {S:Sys} (x:S.R 26=none) (y:S.F 26=some k26) {H:Heap} {R:Kv} (h:s26 S H R):Wf S 26 [] H R:=Wz x y (@Subtype.property Prop (fun p=>wpC S k26.body _ H _=p) _) h
def s27 (S:Sys) (a0:Value) (H:Heap) (R:Kv):Prop:=(⟨_,by
 simp only[k27,w1,sub,List.map,Option.map,↓reduceIte,Nat.reduceEqDiff]
 exact rfl⟩:Yw k27 S [a0] H R).1
theorem w27 {S:Sys} (x:S.R 27=none) (y:S.F 27=some k27) (a0:Value) {H:Heap} {R:Kv} (h:s27 S a0 H R):Wf S 27 [a0] H R:=Wz x y (@Subtype.property Prop (fun p=>wpC S k27.body _ H _=p) _) h
def s28 (S:Sys) (a0:Value) (H:Heap) (R:Kv):Prop:=(⟨_,by
 simp only[k28,w1,sub,List.map,Option.map,↓reduceIte,Nat.reduceEqDiff]
 exact rfl⟩:Yw k28 S [a0] H R).1
theorem w28 {S:Sys} (x:S.R 28=none) (y:S.F 28=some k28) (a0:Value) {H:Heap} {R:Kv} (h:s28 S a0 H R):Wf S 28 [a0] H R:=Wz x y (@Subtype.property Prop (fun p=>wpC S k28.body _ H _=p) _) h
def s29 (S:Sys) (H:Heap) (R:Kv):Prop:=(⟨_,by
 simp only[k29,w1,sub,List.map,Option.map,↓reduceIte,Nat.reduceEqDiff]
 exact rfl⟩:Yw k29 S [] H R).1
theorem w29 {S:Sys} (x:S.R 29=none) (y:S.F 29=some k29) {H:Heap} {R:Kv} (h:s29 S H R):Wf S 29 [] H R:=Wz x y (@Subtype.property Prop (fun p=>wpC S k29.body _ H _=p) _) h
def s30 (S:Sys) (a0:Value) (H:Heap) (R:Kv):Prop:=(⟨_,by
 simp only[k30,w1,sub,List.map,Option.map,↓reduceIte,Nat.reduceEqDiff]
 exact rfl⟩:Yw k30 S [a0] H R).1
theorem w30 {S:Sys} (x:S.R 30=none) (y:S.F 30=some k30) (a0:Value) {H:Heap} {R:Kv} (h:s30 S a0 H R):Wf S 30 [a0] H R:=Wz x y (@Subtype.property Prop (fun p=>wpC S k30.body _ H _=p) _) h
def s31 (S:Sys) (a0 a1:Value) (H:Heap) (R:Kv):Prop:=(⟨_,by
 simp only[k31,w1,sub,List.map,Option.map,↓reduceIte,Nat.reduceEqDiff]
 exact rfl⟩:Yw k31 S [a0,a1] H R).1
theorem w31 {S:Sys} (x:S.R 31=none) (y:S.F 31=some k31) (a0 a1:Value) {H:Heap} {R:Kv} (h:s31 S a0 a1 H R):Wf S 31 [a0,a1] H R:=Wz x y (@Subtype.property Prop (fun p=>wpC S k31.body _ H _=p) _) h
def s41 (S:Sys) (a0:Value) (H:Heap) (R:Kv):Prop:=(⟨_,by
 simp only[k41,w1,sub,List.map,Option.map,↓reduceIte,Nat.reduceEqDiff]
 exact rfl⟩:Yw k41 S [a0] H R).1
theorem w41 {S:Sys} (x:S.R 41=none) (y:S.F 41=some k41) (a0:Value) {H:Heap} {R:Kv} (h:s41 S a0 H R):Wf S 41 [a0] H R:=Wz x y (@Subtype.property Prop (fun p=>wpC S k41.body _ H _=p) _) h
def s46 (S:Sys) (a0 a1:Value) (H:Heap) (R:Kv):Prop:=(⟨_,by
 simp only[k46,w1,sub,List.map,Option.map,↓reduceIte,Nat.reduceEqDiff]
 exact rfl⟩:Yw k46 S [a0,a1] H R).1
theorem w46 {S:Sys} (x:S.R 46=none) (y:S.F 46=some k46) (a0 a1:Value) {H:Heap} {R:Kv} (h:s46 S a0 a1 H R):Wf S 46 [a0,a1] H R:=Wz x y (@Subtype.property Prop (fun p=>wpC S k46.body _ H _=p) _) h
def s47 (S:Sys) (a0 a1 a2:Value) (H:Heap) (R:Kv):Prop:=(⟨_,by
 simp only[k47,w1,sub,List.map,Option.map,↓reduceIte,Nat.reduceEqDiff]
 exact rfl⟩:Yw k47 S [a0,a1,a2] H R).1
theorem w47 {S:Sys} (x:S.R 47=none) (y:S.F 47=some k47) (a0 a1 a2:Value) {H:Heap} {R:Kv} (h:s47 S a0 a1 a2 H R):Wf S 47 [a0,a1,a2] H R:=Wz x y (@Subtype.property Prop (fun p=>wpC S k47.body _ H _=p) _) h
def s53 (S:Sys) (a0:Value) (H:Heap) (R:Kv):Prop:=(⟨_,by
 simp only[k53,w1,sub,List.map,Option.map,↓reduceIte,Nat.reduceEqDiff]
 exact rfl⟩:Yw k53 S [a0] H R).1
theorem w53 {S:Sys} (x:S.R 53=none) (y:S.F 53=some k53) (a0:Value) {H:Heap} {R:Kv} (h:s53 S a0 H R):Wf S 53 [a0] H R:=Wz x y (@Subtype.property Prop (fun p=>wpC S k53.body _ H _=p) _) h
def s73 (S:Sys) (a0 a1:Value) (H:Heap) (R:Kv):Prop:=(⟨_,by
 simp only[k73,w1,sub,List.map,Option.map,↓reduceIte,Nat.reduceEqDiff]
 exact rfl⟩:Yw k73 S [a0,a1] H R).1
theorem w73 {S:Sys} (x:S.R 73=none) (y:S.F 73=some k73) (a0 a1:Value) {H:Heap} {R:Kv} (h:s73 S a0 a1 H R):Wf S 73 [a0,a1] H R:=Wz x y (@Subtype.property Prop (fun p=>wpC S k73.body _ H _=p) _) h
def s74 (S:Sys) (H:Heap) (R:Kv):Prop:=(⟨_,by
 simp only[k74,w1,sub,List.map,Option.map,↓reduceIte,Nat.reduceEqDiff]
 exact rfl⟩:Yw k74 S [] H R).1
theorem w74 {S:Sys} (x:S.R 74=none) (y:S.F 74=some k74) {H:Heap} {R:Kv} (h:s74 S H R):Wf S 74 [] H R:=Wz x y (@Subtype.property Prop (fun p=>wpC S k74.body _ H _=p) _) h
def s105 (S:Sys) (a0:Value) (H:Heap) (R:Kv):Prop:=(⟨_,by
 simp only[k105,w1,sub,List.map,Option.map,↓reduceIte,Nat.reduceEqDiff]
 exact rfl⟩:Yw k105 S [a0] H R).1
theorem w105 {S:Sys} (x:S.R 105=none) (y:S.F 105=some k105) (a0:Value) {H:Heap} {R:Kv} (h:s105 S a0 H R):Wf S 105 [a0] H R:=Wz x y (@Subtype.property Prop (fun p=>wpC S k105.body _ H _=p) _) h
def s230_0 (S:Sys) (e:Fe) (H:Heap) (Q:Kx):Prop:=(⟨_,by
 simp only[b230_0,w1,sub,List.map,Option.map,↓reduceIte,Nat.reduceEqDiff]
 exact rfl⟩:Yb b230_0 S e H Q).1
theorem h230_0 (S:Sys) (e:Fe) (H:Heap) (Q:Kx):wpC S b230_0 e H Q=s230_0 S e H Q:=@Subtype.property Prop (fun p=>wpC S b230_0 e H Q=p) _
def l230_0 (S:Sys) {Q:Kx}:=@WLi b230_0 s230_0 h230_0 S Q
def s230 (S:Sys) (a0:Value) (H:Heap) (R:Kv):Prop:=(⟨_,by
 simp only[k230,w1,sub,List.map,Option.map,↓reduceIte,Nat.reduceEqDiff]
 exact rfl⟩:Yw k230 S [a0] H R).1
theorem w230 {S:Sys} (x:S.R 230=none) (y:S.F 230=some k230) (a0:Value) {H:Heap} {R:Kv} (h:s230 S a0 H R):Wf S 230 [a0] H R:=Wz x y (@Subtype.property Prop (fun p=>wpC S k230.body _ H _=p) _) h
def nwV (i:Nat):List Value:=List.replicate i (.int .i64 (-1))++List.replicate (1024 - i) (.int .i64 0)
theorem zh7 {i:Nat} (h:i≤1024):(nwV i).length=1024:=by simp [nwV];omega
theorem zh8 {i:Nat} (h:i< 1024):(nwV i).set i (.int .i64 (-1))=nwV (i+1):=by
 unfold nwV
 have e:1024 - i=(1024 - (i+1))+1:=by omega
 rw [e,List.replicate_succ,List.set_append_right _ _ (by simp),List.length_replicate,Nat.sub_self]
 simp [List.replicate_succ']
theorem zeros1 (v:Value) (n:Nat):zeros [v] n=List.replicate n v:=by simp [zeros]
def nwB (t:Bytes) (x y z:Value):Blk:= .cells [.string (ofL t),x,y,z] 291 true
structure NxI (H0:Heap) (F:Nat) (t:Bytes) (d:Nat) (e:Fe) (H:Heap) (i:Nat):Prop where
 hi:i≤1024
 hd:d=1024 - i
 nx:H.next=F+2
 kp:Kp F H0 H
 f:H.get F=nwB t (.slice (some ⟨F+1,0,none⟩) 1024 1024) (.slice none 0 0) (.slice none 0 0)
 h:H.get (F+1)= .cells (nwV i) 3 true
 e3:e 3= .pointer (some ⟨F,0,none⟩)
 e20:e 20= .int .i64 1024
 e21:e 21= .int .i64 i
def nwH (H:Heap) (t:Bytes):Heap:=(((H.push (nwB t (.slice (some ⟨H.next+1,0,none⟩) 1024 1024) (.slice (some ⟨H.next+2,0,none⟩) t.length t.length) (.slice (some ⟨H.next+3,0,none⟩) t.length t.length))).push (.cells (List.replicate 1024 (.int .i64 (-1))) 3 true)).push (.cells (List.replicate t.length (.int .i64 0)) 3 true)).push (.cells (List.replicate t.length (.bool false)) 4 true)
theorem zkr {S:Sys} (hR:S.R 230=none) (hF:S.F 230=some k230) {H:Heap} {t:Bytes} (hl:t.length≤2000):Wf S 230 [.string (ofL t)] H fun v H'=>v= .pointer (some ⟨H.next,0,none⟩)∧H'=nwH H t:=by
 refine w230 hR hF _ ?_
 obtain ⟨F,hFn⟩:∃F,F=H.next:=⟨_,rfl⟩
 have hmn:min (t.length:Int) 2000=t.length:=by omega
 have hup:∀{K:Kv} {H:Heap},run S (.slS (.c (.string (ofL t))) none (some (.c (.int .i64 t.length)))) [] H K=K (.string (ofL t)) H:=fun {K} {H}=>by
  rw [zjj,if_pos ⟨by omega,by omega⟩];simp
 have hz1:zeros [.int .i64 0] 1024=nwV 0:=by rw [zeros1];rfl
 have hz2:zeros [.int .i64 0] t.length=List.replicate t.length (.int .i64 0):=zeros1 _ _
 have hz3:zeros [.bool false] t.length=List.replicate t.length (.bool false):=zeros1 _ _
 obtain ⟨H1,hH1⟩:∃H1,H1=H.push (nwB t (.slice none 0 0) (.slice none 0 0) (.slice none 0 0)):=⟨_,rfl⟩
 have n1:H1.next=F+1:=by rw [hH1,hFn];simp
 have g1:H1.get F=nwB t (.slice none 0 0) (.slice none 0 0) (.slice none 0 0):=by rw [hH1,hFn];exact zaL
 obtain ⟨H2,hH2⟩:∃H2,H2=H1.push (.cells (nwV 0) 3 true):=⟨_,rfl⟩
 have n2:H2.next=F+2:=by rw [hH2];simp [n1]
 have g2:H2.get F=nwB t (.slice none 0 0) (.slice none 0 0) (.slice none 0 0):=by rw [hH2,zam (by omega)];exact g1
 have g2h:H2.get (F+1)= .cells (nwV 0) 3 true:=by rw [hH2,←n1];exact zaL
 obtain ⟨H3,hH3⟩:∃H3,H3=H2.put F (nwB t (.slice (some ⟨F+1,0,none⟩) 1024 1024) (.slice none 0 0) (.slice none 0 0)):=⟨_,rfl⟩
 have n3:H3.next=F+2:=by rw [hH3,next_put];exact n2
 have g3:H3.get F=nwB t (.slice (some ⟨F+1,0,none⟩) 1024 1024) (.slice none 0 0) (.slice none 0 0):=by rw [hH3];exact za7 (by omega)
 have g3h:H3.get (F+1)= .cells (nwV 0) 3 true:=by rw [hH3,zap (by omega)];exact g2h
 have s3:kSt H2 (.pointer (some ⟨F,1,none⟩)) (.slice (some ⟨F+1,0,none⟩) 1024 1024)=some H3:=by
  rw [hH3];unfold nwB at*;simp [kSt,g2,zaq]
 have k3:Kp F H H3:=⟨by omega,fun k hk=>by rw [hH3,zap (by omega),hH2,zam (by omega),hH1,zam (by omega)]⟩
 have e1:Blk.cells [.string (ofL t),.slice none 0 0,.slice none 0 0,.slice none 0 0] 291 true=nwB t (.slice none 0 0) (.slice none 0 0) (.slice none 0 0):=rfl
 have c1:(t.length:Int)≤9223372036854775807:=by omega
 have c2:8*(t.length:Int)≤281474976710656:=by omega
 have c3:(t.length:Int)≤281474976710656:=by omega
 have g3':=g3
 unfold nwB at g3'
 simp [s230,zdn,hmn,hup,zaD,zaR,zaN,cellsL,wr,e1,←hFn,←hH1,zcS,hz1,←hH2,n1,zal,s3,g3']
 refine l230_0 S (fun d e H'=>∃i,NxI H F t d e H' i) 1024 ⟨0,by omega,rfl,n3,k3,g3,g3h,by simp,by simp,by simp⟩ ?_
 rintro d e H' ⟨i,hi,rfl,nx,kp,f,h,e3,e20,e21⟩
 have f':=f
 unfold nwB at f'
 by_cases hlt:i< 1024
 ·have hlt':(i:Int)< 1024:=by omega
  have hln:=zh7 hi
  obtain ⟨H4,hH4⟩:∃H4,H4=H'.put (F+1) (.cells (nwV (i+1)) 3 true):=⟨_,rfl⟩
  have s4:kSt H' (.pointer (some ⟨F+1,i,none⟩)) (.int .i64 (-1))=some H4:=by
   rw [hH4,←zh8 hlt]
   simp [kSt,h,zaq,hln,hlt]
  have w1:IntKind.i64.wrap ((i:Int)+1)=((i+1:Nat):Int):=by rw [wi (by omega) (by omega)];omega
  simp [s230_0,e3,e20,e21,hlt,hlt',zal,f',s4,w1]
  exact ⟨1024 - (i+1),by omega,i+1,by omega,rfl,by rw [hH4,next_put];exact nx,⟨by rw [hH4,next_put];exact kp.1,fun k hk=>by rw [hH4,zap (by omega)];exact kp.2 k hk⟩,by rw [hH4,zap (by omega)];exact f,by rw [hH4];exact za7 (by omega),by simp [e3],by simp [e20],by simp⟩
 ·obtain rfl:i=1024:=by omega
  obtain ⟨H5,hH5⟩:∃H5,H5=H'.push (.cells (List.replicate t.length (.int .i64 0)) 3 true):=⟨_,rfl⟩
  have n5:H5.next=F+3:=by rw [hH5];simp [nx]
  have f5:H5.get F=nwB t (.slice (some ⟨F+1,0,none⟩) 1024 1024) (.slice none 0 0) (.slice none 0 0):=by rw [hH5,zam (by omega)];exact f
  obtain ⟨H6,hH6⟩:∃H6,H6=H5.put F (nwB t (.slice (some ⟨F+1,0,none⟩) 1024 1024) (.slice (some ⟨F+2,0,none⟩) t.length t.length) (.slice none 0 0)):=⟨_,rfl⟩
  have n6:H6.next=F+3:=by rw [hH6,next_put];exact n5
  have s6:kSt H5 (.pointer (some ⟨F,2,none⟩)) (.slice (some ⟨F+2,0,none⟩) t.length t.length)=some H6:=by
   rw [hH6];unfold nwB at*;simp [kSt,f5,zaq]
  have f6:H6.get F=nwB t (.slice (some ⟨F+1,0,none⟩) 1024 1024) (.slice (some ⟨F+2,0,none⟩) t.length t.length) (.slice none 0 0):=by rw [hH6];exact za7 (by omega)
  obtain ⟨H7,hH7⟩:∃H7,H7=H6.push (.cells (List.replicate t.length (.bool false)) 4 true):=⟨_,rfl⟩
  have n7:H7.next=F+4:=by rw [hH7];simp [n6]
  have f7:H7.get F=nwB t (.slice (some ⟨F+1,0,none⟩) 1024 1024) (.slice (some ⟨F+2,0,none⟩) t.length t.length) (.slice none 0 0):=by rw [hH7,zam (by omega)];exact f6
  obtain ⟨H8,hH8⟩:∃H8,H8=H7.put F (nwB t (.slice (some ⟨F+1,0,none⟩) 1024 1024) (.slice (some ⟨F+2,0,none⟩) t.length t.length) (.slice (some ⟨F+3,0,none⟩) t.length t.length)):=⟨_,rfl⟩
  have s8:kSt H7 (.pointer (some ⟨F,3,none⟩)) (.slice (some ⟨F+3,0,none⟩) t.length t.length)=some H8:=by
   rw [hH8];unfold nwB at*;simp [kSt,f7,zaq]
  have ckS:∀(l:Bytes) (H:Heap) (P:Prop),ck (some (Value.string (ofL l),H)) (Value.string (ofL l)) P=P:=fun l H P=>by
   show (veq _ _=true∧P)=P
   have:veq (Value.string (ofL l)) (Value.string (ofL l))=true:=by simp [veq,veq1]
   rw [this];simp
  have f5':=f5
  unfold nwB at f5'
  have f7':=f7
  unfold nwB at f7'
  have f6':=f6
  unfold nwB at f6'
  simp [s230_0,e3,e20,e21,zal,f',zdn,zcS,c1,c2,c3,hz2,hz3,nx,←hH5,kop,f5',ckS]
  simp [s6,n6,←hH7,kop,f7',f6',ckS,s8]
  have hfull:nwV 1024=List.replicate 1024 (.int .i64 (-1)):=by unfold nwV;rw [Nat.sub_self];simp
  rw [hfull] at h
  have hN:(nwH H t).next=F+4:=by unfold nwH;simp [hFn]
  refine zhf (by rw [hN,hH8,next_put];exact n7) fun j hj=>?_
  have hj:j< F+4:=by rw [hH8,next_put,n7] at hj;exact hj
  unfold nwH
  rw [←hFn]
  have hcase:j< F∨j=F∨j=F+1∨j=F+2∨j=F+3:=by omega
  rcases hcase with hc|rfl|rfl|rfl|rfl
  ·rw [hH8,zap (by omega),hH7,zam (by omega),hH6,zap (by omega),hH5,zam (by omega),kp.2 j hc,zam (by simp;omega),zam (by simp;omega),zam (by simp;omega),zam (by omega)]
  ·rw [hH8,za7 (by omega)]
   simp only [hFn]
   rw [zam (by simp<;>omega),zam (by simp<;>omega),zam (by simp),zaL]
  ·rw [hH8,zap (by omega),hH7,zam (by omega),hH6,zap (by omega),hH5,zam (by omega),h]
   simp [hFn]
  ·rw [hH8,zap (by omega),hH7,zam (by omega),hH6,zap (by omega),hH5,←nx,zaL]
   simp [hFn,nx]
  ·rw [hH8,zap (by omega),hH7,←n6,zaL]
   simp [hFn,n6]
def zf4:List Value→Heap→Option (Value×Heap)
 | [.string s],H=>if s.data.toList.length≤2000 then some (.pointer (some ⟨H.next,0,none⟩),nwH H s.data.toList) else none
 |_,_=>none
def S0:Sys:=⟨F,M,R0,Bk⟩
theorem zks:zcO Go.Proofs.Tryz.prog S0:=⟨zjy,by kernel_rfl,zjx,zix,zhi⟩
theorem zjB:zbc Go.Proofs.Tryz.prog 230 zf4:=by
 refine zfg zks (by kernel_rfl) fun args H v H' h=>?_
 unfold zf4 at h
 split at h
 ·rename_i s
  split at h
  ·rename_i hc
   cases h
   have hw:=zkr (S:=S0) rfl rfl (H:=H) hc
   rw [zeJ] at hw
   exact hw.mono fun v H' ⟨h1,h2⟩=>⟨h1,h2⟩
  ·cases h
 ·cases h
def R1:FuncId→Option (List Value→Heap→Option (Value×Heap)):=fun f=>if f=230 then some zf4 else R0 f
theorem zkt:∀f p,R1 f=some p→zbc Go.Proofs.Tryz.prog f p:=fun f p h=>by
 unfold R1 at h
 split at h
 ·rename_i hf
  cases h;subst hf;exact zjB
 ·exact zix f p h
def S1:Sys:=⟨F,M,R1,Bk⟩
def zjC (args:List Value) (T:HTr):Option (Value×HTr):=(zeS args []).map fun p=>(p.1,T)
def zjD:List Value→HTr→Option (Value×HTr)
 | [.string text,.slice a n c],T=>if text.size≤1000000∧n≤1000000 then (zf0 T 260 3 n a).bind fun cs=>(sq3 cs).map fun ss=>(.string ⟨(zfh text.data.toList ss).toArray⟩,T) else none
 |_,_=>none
def zjE:List Value→HTr→Option (Value×HTr)
 | [.string s],T=>if s.data.toList.length≤2000 then (T.push (.cells [.string s,.slice (some ⟨T.n+1,0,none⟩) 1024 1024,.slice (some ⟨T.n+2,0,none⟩) s.data.toList.length s.data.toList.length,.slice (some ⟨T.n+3,0,none⟩) s.data.toList.length s.data.toList.length] 291 true)).bind fun T1=>(T1.push (.cells (List.replicate 1024 (.int .i64 (-1))) 3 true)).bind fun T2=>(T2.push (.cells (List.replicate s.data.toList.length (.int .i64 0)) 3 true)).bind fun T3=>(T3.push (.cells (List.replicate s.data.toList.length (.bool false)) 4 true)).map fun T4=>(.pointer (some ⟨T.n,0,none⟩),T4) else none
 |_,_=>none
def RT1:FuncId→Option (List Value→HTr→Option (Value×HTr)):=fun f=>if f=226 then some zjC else if f=213 then some zjD else if f=230 then some zjE else none
theorem zh9 (args:List Value) (T:HTr) (H:Heap) (r:Value×HTr) (h:HRl T H) (hk:zjC args T=some r):∃H',zeS args H=some (r.1,H')∧HRl r.2 H':=by
 unfold zjC at hk
 cases hq:zeS args [] with
 |none=>rw [hq] at hk;cases hk
 |some p=>
  rw [hq] at hk;cases hk
  refine ⟨H,?_,h⟩
  unfold zeS at hq⊢
  split at hq
  ·split at hq
   ·rename_i hc;rw [if_pos hc];cases hq;rfl
   ·cases hq
  ·cases hq
theorem zia (args:List Value) (T:HTr) (H:Heap) (r:Value×HTr) (h:HRl T H) (hk:zjD args T=some r):∃H',zf3 args H=some (r.1,H')∧HRl r.2 H':=by
 unfold zjD at hk
 split at hk
 ·rename_i text a n c
  split at hk
  ·rename_i hc
   rw [zc3 h] at hk
   unfold zf3
   simp only
   rw [if_pos hc]
   cases hr:zbz H 260 3 n a with
   |none=>rw [hr] at hk;cases hk
   |some cs=>
    rw [hr] at hk
    simp only [Option.bind_some] at hk⊢
    cases hs:sq3 cs with
    |none=>rw [hs] at hk;cases hk
    |some ss=>rw [hs] at hk;cases hk;exact ⟨H,rfl,h⟩
  ·cases hk
 ·cases hk
theorem zib (args:List Value) (T:HTr) (H:Heap) (r:Value×HTr) (h:HRl T H) (hk:zjE args T=some r):∃H',zf4 args H=some (r.1,H')∧HRl r.2 H':=by
 unfold zjE at hk
 split at hk
 ·rename_i s
  split at hk
  ·rename_i hc
   unfold zf4
   simp only
   rw [if_pos hc]
   have hn:=h.n
   rw [hn] at hk
   cases h1:T.push (.cells [.string s,.slice (some ⟨H.next+1,0,none⟩) 1024 1024,.slice (some ⟨H.next+2,0,none⟩) s.data.toList.length s.data.toList.length,.slice (some ⟨H.next+3,0,none⟩) s.data.toList.length s.data.toList.length] 291 true) with
   |none=>rw [h1] at hk;cases hk
   |some T1=>
    rw [h1] at hk
    simp only [Option.bind_some] at hk
    cases h2:T1.push (.cells (List.replicate 1024 (.int .i64 (-1))) 3 true) with
    |none=>rw [h2] at hk;cases hk
    |some T2=>
     rw [h2] at hk
     simp only [Option.bind_some] at hk
     cases h3:T2.push (.cells (List.replicate s.data.toList.length (.int .i64 0)) 3 true) with
     |none=>rw [h3] at hk;cases hk
     |some T3=>
      rw [h3] at hk
      simp only [Option.bind_some] at hk
      cases h4:T3.push (.cells (List.replicate s.data.toList.length (.bool false)) 4 true) with
      |none=>rw [h4] at hk;cases hk
      |some T4=>
       rw [h4] at hk;cases hk
       have q:=HTr.push_ok (HTr.push_ok (HTr.push_ok (HTr.push_ok h h1) h2) h3) h4
       refine ⟨_,rfl,?_⟩
       unfold nwH nwB
       rw [zeJ]
       exact q
  ·cases hk
 ·cases hk
theorem zhj:zh2 S1 RT1:=by
 refine ⟨fun f q h=>?_,fun f h=>?_⟩
 ·unfold RT1 at h
  split at h
  ·rename_i hf
   cases h;subst hf
   exact ⟨zeS,rfl,zh9⟩
  ·split at h
   ·rename_i hf
    cases h;subst hf
    exact ⟨zf3,rfl,zia⟩
   ·split at h
    ·rename_i hf
     cases h;subst hf
     exact ⟨zf4,rfl,zib⟩
    ·cases h
 ·unfold RT1 at h
  show R1 f=none
  unfold R1 R0
  split at h
  ·cases h
  ·rename_i h1
   split at h
   ·cases h
   ·rename_i h2
    split at h
    ·cases h
    ·rename_i h3
     rw [if_neg h3,if_neg h1,if_neg h2]
end Go.Proofs.YtnbjcbhlbkmhoaaGreat.K
namespace Go.Proofs.YtnbjcbhlbkmhoaaGreat.K
open Go Go.Proofs Go.RowKit
section
variable {P:Program} {ops:Array Oper} {Q:Exit→Act→World→Prop} {a:Act} {w:World} {rest:List Oper} {o:Oper}
theorem zdu (hg:o.guard=none) (m:Operand) (mt kt et:TypeId) (hop:o.op= .range mt m) (hmt:P.underlying mt=some (.map kt et)) (mb ck:Nat) (hm:a.eval m= .map (some mb)) (gw:w.heap[mb]? =some (.map #[] ck))
  (h:∀w',w'=w.alloc (.mapIter (some mb) ck #[] ck)→wpList P ops Q rest (a.put o.dst (.pointer (some ⟨w.heap.size,0,none⟩))) w'):wpList P ops Q (o::rest) a w:=by
 refine wpList_plain hg fun K' hK'=>?_
 unfold Oper.wp
 simp [execOp,hop,hm,run_range_map (P:=P) w mt kt et mb #[] ck hmt gw,Result.andThen]
 exact hK' _ _ (h _ rfl)
theorem zd9 (hg:o.guard=none) (it:Operand) (hop:o.op= .next it false) (r mb ck:Nat) (hit:a.eval it= .pointer (some ⟨r,0,none⟩)) (hr:w.heap[r]? =some (.mapIter (some mb) ck #[] ck)) (gw:w.heap[mb]? =some (.map #[] ck))
  (h:wpList P ops Q rest (a.put o.dst (.tuple #[.bool false])) w):wpList P ops Q (o::rest) a w:=by
 refine wpList_plain hg fun K' hK'=>?_
 unfold Oper.wp
 rcases run_next_at (P:=P) w o.type r mb ck ck #[] #[] ck hr gw (by simp) (Nat.le_refl _) with ⟨_,hrun⟩|⟨e,he,_⟩
 ·simp [execOp,hop,hit,hrun,Result.andThen]
  exact hK' _ _ h
 ·simp [leftOf] at he
end
theorem zjF (b o mb ck:Nat) (W:World) (hc:W.cell? ⟨b,o+2,none⟩=some (.map (some mb))) (hm:W.heap[mb]? =some (.map #[] ck)):
  Calls Go.Proofs.Tryz.prog 136 #[.pointer (some ⟨b,o,none⟩)] W fun e w'=>e= .returned (.int .i64 0)∧Below W.heap.size W w':=by
 have mixed:Go.Proofs.Tryz.prog.follows .mixedOrders=true:=by kernel_rfl
 have hnt:Go.Proofs.Tryz.f136.ntmps=21:=by kernel_rfl
 have hmt:Go.Proofs.Tryz.prog.underlying 88=some (.map 3 9):=by kernel_rfl
 go_enter Go.Proofs.Tryz.func136,hnt
 go_wp2_with (at_range;refine zdu rfl _ _ _ _ rfl hmt mb ck rfl hm ?_;intro w1 hw1)
 have hlt:mb< W.heap.size:=(Array.getElem?_eq_some_iff.1 hm).1
 have hm1:w1.heap[mb]? =some (.map #[] ck):=by rw [hw1];exact ((MapKept.heap_alloc W _).2 mb hlt).trans hm
 have hr1:w1.heap[W.heap.size]? =some (.mapIter (some mb) ck #[] ck):=by rw [hw1];exact heap_alloc_new W _
 have hb1:Below W.heap.size W w1:=by rw [hw1];exact (Below.refl _ W).alloc (Nat.le_refl _) _
 clear hw1
 go_frame
 go_loopw [3] (fun s3 wx=>s3= .int .i64 0∧wx=w1) (fun _ _=>0)
 case atStart=>exact ⟨rfl,rfl⟩
 case round=>
  obtain ⟨rfl,rfl⟩:=hrel
  go_wp2_with (at_next;refine zd9 rfl _ rfl W.heap.size mb ck rfl hr1 hm1 ?_)
  go_ret
  exact ⟨rfl,hb1⟩
def zdH:List Value→Heap→Option (Value×Heap)
 | [.pointer (some ⟨b,o,none⟩)],H=>match kLd H (.pointer (some ⟨b,o+2,none⟩)) with
   |some (.map (some m))=>match H.get m with
    | .map [] _=>some (.int .i64 0,H)
    |_=>none
   |_=>none
 |_,_=>none
theorem zic:zbc Go.Proofs.Tryz.prog 136 zdH:=by
 refine ⟨by kernel_rfl,?_⟩
 intro B w0 args H v H' h ρ w cargs hrel hv
 unfold zdH at h
 split at h
 ·rename_i b o
  split at h
  ·rename_i m hld
   split at h
   ·rename_i ck hm
    cases h
    obtain ⟨y,hy,h1⟩:=hv.get (i:=0) rfl
    obtain ⟨hl,-⟩:=hv
    obtain ⟨y',rfl⟩:∃y',cargs= [y']:=by
     match cargs,hl with
     | [a],_=>exact ⟨a,rfl⟩
    simp at hy
    subst hy
    cases h1 with
    |ptr hL=>
     rename_i L
     have hB:=hrel.blk b L hL
     simp only [zkm] at hld
     split at hld
     ·rename_i c t rw' hg
      rw [hg] at hB
      obtain ⟨_,arr,tw,fr,hh,hsz,hle,hcl,_⟩:=hB
      obtain ⟨_,z,hz,hvz⟩:=hcl _ _ hld
      cases hvz with
      |map hLm=>
       rename_i Lm
       have hBm:=hrel.blk m Lm hLm
       rw [hm] at hBm
       obtain ⟨es',hes,hes2,_⟩:=hBm
       obtain rfl:es'=#[]:=by cases es';simp at hes2;simp [hes2]
       have hw:=zjF L.block (L.off+o) Lm.block ck w (by
        simp only [Nat.add_assoc] at hz⊢
        simp [World.cell?,hh,hz]) hes
       exact hw.mono fun e w' ⟨he,hb⟩=>⟨ρ,_,he,List.prefix_refl _,.int _ _,hrel.world ⟨hb.os,hb.tape,hb.output,hb.size,fun k hk=>hb.block k (hrel.base k hk)⟩ hb.block⟩
     ·cases hld
   ·cases h
  ·cases h
 ·cases h
def R3:FuncId→Option (List Value→Heap→Option (Value×Heap)):=fun f=>if f=136 then some zdH else R1 f
theorem ziy:∀f p,R3 f=some p→zbc Go.Proofs.Tryz.prog f p:=fun f p h=>by
 unfold R3 at h
 split at h
 ·rename_i hf
  cases h;subst hf;exact zic
 ·exact zkt f p h
def S3:Sys:=⟨F,M,R3,Bk⟩
theorem zku:zcO Go.Proofs.Tryz.prog S3:=⟨zjy,by kernel_rfl,zjx,ziy,zhi⟩
def lastT:List Value→HTr→Option (Value×HTr)
 | [.pointer (some ⟨b,o,none⟩)],T=>match tLd T (.pointer (some ⟨b,o+2,none⟩)) with
   |some (.map (some m))=>match T.get m with
    | .map [] _=>some (.int .i64 0,T)
    |_=>none
   |_=>none
 |_,_=>none
theorem zhk (args:List Value) (T:HTr) (H:Heap) (r:Value×HTr) (h:HRl T H) (hk:lastT args T=some r):∃H',zdH args H=some (r.1,H')∧HRl r.2 H':=by
 unfold lastT at hk
 split at hk
 ·rename_i b o
  rw [zck h] at hk
  split at hk
  ·rename_i m hm
   rw [h.g] at hk
   split at hk
   ·rename_i ck hc
    cases hk
    exact ⟨H,by simp only [zdH,hm,hc],h⟩
   ·cases hk
  ·cases hk
 ·cases hk
def RT3:FuncId→Option (List Value→HTr→Option (Value×HTr)):=fun f=>if f=136 then some lastT else RT1 f
theorem zjG:zh2 S3 RT3:=by
 refine ⟨fun f q h=>?_,fun f h=>?_⟩
 ·unfold RT3 at h
  split at h
  ·rename_i hf
   cases h
   exact ⟨zdH,by show R3 f=_;unfold R3;rw [if_pos hf],zhk⟩
  ·rename_i hf
   obtain ⟨p,h1,h2⟩:=zhj.1 f q h
   exact ⟨p,by show R3 f=_;unfold R3;rw [if_neg hf];exact h1,h2⟩
 ·unfold RT3 at h
  split at h
  ·cases h
  ·rename_i hf
   show R3 f=none
   unfold R3
   rw [if_neg hf]
   exact zhj.2 f h
end Go.Proofs.YtnbjcbhlbkmhoaaGreat.K
set_option maxHeartbeats 0
namespace Go.Proofs.YtnbjcbhlbkmhoaaGreat.K
open Go Go.Proofs
theorem run32:(evQ S3 RT3 300 4 [] T0).map (fun p=>p.1)=some (.bool true):=by kernel_rfl
theorem aw32_ok:zbc Go.Proofs.Tryz.prog 4 (prim0 (.bool true)):=prim0_ok zku rfl (by kernel_rfl) (zh5 zjG run32)
def R:FuncId→Option (List Value→Heap→Option (Value×Heap)):=fun f=>if f=4 then some (prim0 (.bool true)) else R3 f
theorem zlx:∀f p,R f=some p→zbc Go.Proofs.Tryz.prog f p:=fun f p h=>by
 unfold R at h
 split at h
 ·rename_i hf
  cases h;subst hf;exact aw32_ok
 ·exact ziy f p h
theorem aw32_prim:R 4=some (prim0 (.bool true)):=rfl
set_option maxHeartbeats 4000000
def S:Sys:=⟨F,M,R,Bk⟩
theorem S_ok:zcO Go.Proofs.Tryz.prog S:=⟨zjy,by kernel_rfl,zjx,zlx,zhi⟩
theorem zjH (a:Option Addr) (H:Heap) (P:Prop):ck (some (Value.pointer a,H)) (Value.pointer a) P=P:=by
 simp [ck,veq,veq1]
theorem zeT (k:IntKind) (n:Int) (H:Heap) (P:Prop):ck (some (Value.int k n,H)) (Value.int k n) P=P:=by
 simp [ck,veq,veq1]
theorem zkv (a:Option Addr) (n c:Nat) (H:Heap) (P:Prop):ck (some (Value.slice a n c,H)) (Value.slice a n c) P=P:=by
 simp [ck,veq,veq1]
section
variable {H:Heap}
theorem zcK (n lo hi:Int):Wf S 24 [.int .i64 n,.int .i64 lo,.int .i64 hi] H fun v H'=>H'=H∧v= .int .i64 (min (max n lo) hi):=by
 refine w24 rfl rfl _ _ _ ?_
 simp [s24]
theorem zhl:Wf S 25 [] H fun v H'=>v= .pointer (some ⟨H.next,0,none⟩)∧H'=H.push (.cells [.slice none 0 0,.int .i64 0,.int .i64 0] 80 true):=by
 refine w25 rfl rfl ?_
 simp [s25,zaD,zaR,zaN,cellsL,wr]
theorem zid:Wf S 26 [] H fun v H'=>v= .pointer (some ⟨H.next,0,none⟩)∧Kp H.next H H'∧H.next< H'.next:=by
 refine w26 rfl rfl ?_
 simp [s26,zaD,zaR,zaN,cellsL,wr]
 exact Kp.push (Nat.le_refl _)
theorem zie:Wf S 27 [.int .i64 0] H fun v H'=>∃k,v= .pointer (some ⟨k,0,none⟩)∧Kp H.next H H':=by
 refine w27 rfl rfl _ ?_
 have e:min (max (0:Int) 1) 64=1:=by decide
 simp [s27,zcS,zaD,zaR,zaN,cellsL,wr,e]
 exact (Kp.push (Nat.le_refl _)).trans (Kp.push (by simp))
theorem zif:Wf S 28 [.int .i64 2] H fun v H'=>∃k a c,v= .pointer (some ⟨k,0,none⟩)∧Kp H.next H H'∧H'.get k= .cells [.slice a 2 c] 87 true∧H.next≤k∧k< H'.next:=by
 refine w28 rfl rfl _ ?_
 have e:min (max (2:Int) 1) 16=2:=by decide
 simp [s28,zcS,zaD,zaR,zaN,cellsL,wr,e]
 exact (Kp.push (Nat.le_refl _)).trans (Kp.push (by simp))
theorem zig:Wf S 29 [] H fun v H'=>∃k,v= .pointer (some ⟨k,0,none⟩)∧Kp H.next H H':=by
 refine w29 rfl rfl ?_
 simp [s29,zaD,zaR,zaN,cellsL,wr]
 exact ((Kp.push (Nat.le_refl _)).trans (Kp.push (by simp)))
theorem zih:Wf S 74 [] H fun v H'=>v= .agg #[.int .u64 7640891576956012808,.int .u64 0]∧Kp H.next H H':=by
 refine w74 rfl rfl ?_
 simp [s74,zaD,zaR,zaN,cellsL,wr,zeU]
 simp [zbq,rd,rt]
 exact Kp.push (Nat.le_refl _)
theorem zfL:Wf S 53 [.int .i64 1000] H fun v H'=>∃k,v= .pointer (some ⟨k,0,none⟩)∧Kp H.next H H':=by
 refine w53 rfl rfl _ ?_
 simp [s53]
 refine zih.mono ?_
 rintro v H1 ⟨rfl,k1⟩
 simp [zaD,zaR,zaN,cellsL,wr]
 exact k1.trans (Kp.push k1.1)
theorem zii:Wf S 30 [.int .i64 1000] H fun v H'=>∃k,v= .pointer (some ⟨k,0,none⟩)∧Kp H.next H H':=by
 refine w30 rfl rfl _ ?_
 simp [s30]
 refine zfL.mono ?_
 rintro v H1 ⟨k1,rfl,q1⟩
 try simp
 refine zfL.mono ?_
 rintro v H2 ⟨k2,rfl,q2⟩
 have q:=q1.trans (q2.mono q1.1)
 simp [zaD,zaR,zaN,cellsL,wr]
 exact q.trans (Kp.push q.1)
end
set_option maxHeartbeats 8000000
def clV (lg st rg tr:Nat) (nv:Value):List Value:= [.int .i64 2,.int .i64 0,.int .i64 1000,.int .i64 0,.int .i64 0,.pointer (some ⟨lg,0,none⟩),.pointer (some ⟨st,0,none⟩),.pointer (some ⟨rg,0,none⟩),.pointer (some ⟨tr,0,none⟩),nv,.slice none 0 0]
structure NwI (bx c lg st rg tr:Nat) (a:Option Addr) (cc:Nat) (d:Nat) (e:Fe) (H:Heap) (i:Nat) (nv:Value) (cs:List Value):Prop where
 hi:i≤2
 hd:d=2 - i
 gb:H.get bx= .cells [.int .i64 2,.int .i64 0,.int .i64 1000,.int .i64 0,.int .i64 0] 28 true
 gc:H.get c= .cells (clV lg st rg tr nv) 56 true
 gl:H.get lg= .cells [.slice none 0 0,.int .i64 0,.int .i64 0] 80 true
 gt:H.get tr= .cells [.slice a 2 cc] 87 true
 lt:bx< c∧lg< c∧tr< c∧c< H.next
 acc:Acc 57 1 (c+1) H.next H nv i cs
 e1:e 1= .pointer (some ⟨bx,0,none⟩)
 e3:e 3= .pointer (some ⟨c,0,none⟩)
 e29:e 29= .int .i64 2
 e30:e 30= .int .i64 i
def NwS (H0:Heap) (bx c lg st rg tr:Nat) (a:Option Addr) (cc:Nat) (d:Nat) (e:Fe) (H:Heap):Prop:=∃i nv cs,NwI bx c lg st rg tr a cc d e H i nv cs∧Kp H0.next H0 H
def Cl (H:Heap) (c:Nat):Prop:=∃lg st rg tr a2 c2 a cc,H.get c= .cells (clV lg st rg tr (.slice a2 2 c2)) 56 true∧H.get lg= .cells [.slice none 0 0,.int .i64 0,.int .i64 0] 80 true∧H.get tr= .cells [.slice a 2 cc] 87 true
section
variable {H:Heap}
theorem zij:Wf S 5 [.agg #[.int .i64 2,.int .i64 0,.int .i64 0,.int .i64 0,.int .i64 0]] H fun v H'=>∃c,v= .pointer (some ⟨c,0,none⟩)∧Cl H' c∧Kp H.next H H':=by
 refine w5 rfl rfl _ ?_
 obtain ⟨H1,hH1⟩:∃H1,H1=H.push (.cells [.int .i64 2,.int .i64 0,.int .i64 0,.int .i64 0,.int .i64 0] 28 true):=⟨_,rfl⟩
 have g1:H1.get H.next= .cells [.int .i64 2,.int .i64 0,.int .i64 0,.int .i64 0,.int .i64 0] 28 true:=by rw [hH1];exact zaL
 have n1:H1.next=H.next+1:=by rw [hH1];simp
 have k1:Kp H.next H H1:=by rw [hH1];exact Kp.push (Nat.le_refl _)
 simp [s5,zaN,cellsL,←hH1,zal,g1]
 refine (zcK _ _ _).mono ?_
 rintro v H2 ⟨rfl,rfl⟩
 simp [kop,g1,zeT]
 refine (zcK _ _ _).mono ?_
 rintro v H3 ⟨rfl,rfl⟩
 simp [kop,g1,zeT]
 refine (zcK _ _ _).mono ?_
 rintro v H4 ⟨rfl,rfl⟩
 have e1:min (max (2:Int) 1) 16=2:=by decide
 have e2:min (max (0:Int) 1000) 2048=1000:=by decide
 have e3:min (max (0:Int) 0) 400=0:=by decide
 have pg:∀x,(H4.put H.next x).get H.next=x:=fun x=>za7 (by omega)
 have pp:∀x y,(H4.put H.next x).put H.next y=H4.put H.next y:=fun _ _=>zdV
 obtain ⟨H5,hH5⟩:∃H5,H5=H4.put H.next (.cells [.int .i64 2,.int .i64 0,.int .i64 1000,.int .i64 0,.int .i64 0] 28 true):=⟨_,rfl⟩
 have g5:H5.get H.next= .cells [.int .i64 2,.int .i64 0,.int .i64 1000,.int .i64 0,.int .i64 0] 28 true:=by rw [hH5];exact pg _
 have n5:H5.next=H.next+1:=by rw [hH5,next_put];exact n1
 have k5:Kp H.next H H5:=by rw [hH5];exact k1.trans (Kp.put (Nat.le_refl _))
 have ck_a:∀(H:Heap) (P:Prop),ck (some (.agg #[.int .i64 2,.int .i64 0,.int .i64 1000,.int .i64 0,.int .i64 0],H)) (.agg #[.int .i64 2,.int .i64 0,.int .i64 1000,.int .i64 0,.int .i64 0]) P=P:=fun H P=>by simp [ck,veq,zeV,veq1]
 have e4:min (0:Int) 400=0:=by decide
 have pq:H5.put H.next (.cells [.int .i64 2,.int .i64 0,.int .i64 1000,.int .i64 0,.int .i64 0] 28 true)=H5:=zdX g5
 simp [kSt,g1,zaq,e1,e2,e3,e4,pg,pp,←hH5,pq,g5,zbq,rd]
 refine zhl.mono ?_
 rintro v H6 ⟨rfl,hH6⟩
 have g6l:H6.get H5.next= .cells [.slice none 0 0,.int .i64 0,.int .i64 0] 80 true:=by rw [hH6];exact zaL
 have n6:H6.next=H5.next+1:=by rw [hH6];simp
 have k6:Kp H5.next H5 H6:=by rw [hH6];exact Kp.push (Nat.le_refl _)
 have g6:H6.get H.next= .cells [.int .i64 2,.int .i64 0,.int .i64 1000,.int .i64 0,.int .i64 0] 28 true:=by rw [k6.2 _ (by omega)];exact g5
 simp [g6,zbq,rd,ck_a,zeT]
 refine zid.mono ?_
 rintro v H7 ⟨rfl,k7,_⟩
 have g7:H7.get H.next= .cells [.int .i64 2,.int .i64 0,.int .i64 1000,.int .i64 0,.int .i64 0] 28 true:=by rw [k7.2 _ (by omega)];exact g6
 simp [g7,zbq,rd,ck_a,zeT]
 refine zie.mono ?_
 rintro v H8 ⟨rg,rfl,k8⟩
 have hn7:=k7.1
 have g8:H8.get H.next= .cells [.int .i64 2,.int .i64 0,.int .i64 1000,.int .i64 0,.int .i64 0] 28 true:=by rw [k8.2 _ (by omega)];exact g7
 simp [g8,zbq,rd,ck_a,zeT]
 refine zif.mono ?_
 rintro v H9 ⟨tr,a,cc,rfl,k9,gt,ht1,ht2⟩
 have hn8:=k8.1
 have g9:H9.get H.next= .cells [.int .i64 2,.int .i64 0,.int .i64 1000,.int .i64 0,.int .i64 0] 28 true:=by rw [k9.2 _ (by omega)];exact g8
 have hn9:=k9.1
 have g9l:H9.get H5.next= .cells [.slice none 0 0,.int .i64 0,.int .i64 0] 80 true:=by rw [k9.2 _ (by omega),k8.2 _ (by omega),k7.2 _ (by omega)];exact g6l
 have kk9:Kp H.next H H9:=(((k5.trans (k6.mono (by omega))).trans (k7.mono (by omega))).trans (k8.mono (by omega))).trans (k9.mono (by omega))
 obtain ⟨H10,hH10⟩:∃H10,H10=H9.push (.cells (clV H5.next H6.next rg tr (.slice none 0 0)) 56 true):=⟨_,rfl⟩
 have gA:H10.get H9.next= .cells (clV H5.next H6.next rg tr (.slice none 0 0)) 56 true:=by rw [hH10];exact zaL
 have hold:∀k,k< H9.next→H10.get k=H9.get k:=fun k hk=>by rw [hH10];exact zam hk
 have nA:H10.next=H9.next+1:=by rw [hH10];simp
 have kkA:Kp H.next H H10:=kk9.trans (by rw [hH10];exact Kp.push kk9.1)
 have hH10':H10=H9.push (.cells [.int .i64 2,.int .i64 0,.int .i64 1000,.int .i64 0,.int .i64 0,.pointer (some ⟨H5.next,0,none⟩),.pointer (some ⟨H6.next,0,none⟩),.pointer (some ⟨rg,0,none⟩),.pointer (some ⟨tr,0,none⟩),.slice none 0 0,.slice none 0 0] 56 true):=by rw [hH10];rfl
 have g10:H10.get H.next= .cells [.int .i64 2,.int .i64 0,.int .i64 1000,.int .i64 0,.int .i64 0] 28 true:=by rw [hold _ (by omega)];exact g9
 have g10l:H10.get H5.next= .cells [.slice none 0 0,.int .i64 0,.int .i64 0] 80 true:=by rw [hold _ (by omega)];exact g9l
 have g10t:H10.get tr= .cells [.slice a 2 cc] 87 true:=by rw [hold _ (by omega)];exact gt
 have hgp:(H9.push (.cells [.int .i64 2,.int .i64 0,.int .i64 1000,.int .i64 0,.int .i64 0,.pointer (some ⟨H5.next,0,none⟩),.pointer (some ⟨H6.next,0,none⟩),.pointer (some ⟨rg,0,none⟩),.pointer (some ⟨tr,0,none⟩),.slice none 0 0,.slice none 0 0] 56 true))=H10:=hH10'.symm
 have hlt9:H.next< H9.next:=by omega
 simp [g9,zbq,rd,ck_a,zeT,zaD,zaR,zaN,cellsL,wr,hlt9]
 rw [hgp]
 refine l5_0 S (NwS H H.next H9.next H5.next H6.next rg tr a cc) 2 ⟨0,.slice none 0 0,[],⟨by omega,rfl,g10,gA,g10l,g10t,by omega,Acc.nil,by simp,by simp,by simp,by simp⟩,kkA⟩ ?_
 rintro d e HA ⟨i,nv,cs,⟨hi,rfl,gb,gc,gl,gt',lt,acc,e1',e3',e29,e30⟩,kk⟩
 by_cases hlt:i< 2
 ·have hlt':(i:Int)< 2:=by omega
  have w1:IntKind.i64.wrap ((i:Int)+1)=((i+1:Nat):Int):=by rw [wi (by omega) (by omega)];omega
  obtain ⟨an,cn,hnv,_⟩:=acc.len
  subst hnv
  simp [s5_0,e1',e3',e29,e30,hlt,hlt',zal,gb,gc,clV]
  refine zig.mono ?_
  rintro v HB ⟨k1,rfl,q1⟩
  have gcB:HB.get H9.next= .cells (clV H5.next H6.next rg tr (.slice an i cn)) 56 true:=by rw [q1.2 _ (by omega)];exact gc
  have gbB:HB.get H.next= .cells [.int .i64 2,.int .i64 0,.int .i64 1000,.int .i64 0,.int .i64 0] 28 true:=by rw [q1.2 _ (by omega)];exact gb
  simp [kop,gcB,gbB,clV,zeT,zkv,zjH]
  refine zii.mono ?_
  rintro v HC ⟨k2,rfl,q2⟩
  have hnB:=q1.1
  have hnC:=q2.1
  have gcC:HC.get H9.next= .cells (clV H5.next H6.next rg tr (.slice an i cn)) 56 true:=by rw [q2.2 _ (by omega)];exact gcB
  have hlC:H9.next< HC.next:=by omega
  have hlC2:H9.next< HC.next+1:=by omega
  obtain ⟨HD,hHD⟩:∃HD,HD=HC.push (.cells [.pointer (some ⟨k1,0,none⟩),.pointer (some ⟨k2,0,none⟩),.pointer none,.pointer none,.pointer none,.pointer none,.string (bs []),.slice none 0 0,.bool false,.slice none 0 0,.slice none 0 0,.int .i64 ((i:Int)+1)] 67 true):=⟨_,rfl⟩
  have nD:HD.next=HC.next+1:=by rw [hHD];simp
  have oldD:∀k,k< HA.next→HD.get k=HA.get k:=fun k hk=>by rw [hHD,zam (by omega),q2.2 _ (by omega),q1.2 _ hk]
  have accD:Acc 57 1 (H9.next+1) HD.next HD (.slice an i cn) i cs:=(acc.kp fun k hk1 hk2=>oldD k hk2).mono (by omega)
  obtain ⟨v',HE,eE,hA,nE,hkE⟩:=accD.app (bytes:=8) (new:= [.pointer (some ⟨HC.next,0,none⟩)]) (by omega) (Nat.le_refl _) rfl (by unfold zar;omega)
  have oldE:∀k,k< H9.next+1→HE.get k=HA.get k:=fun k hk=>by rw [hkE k (by omega) (.inl hk),oldD k (by omega)]
  have gcE:HE.get H9.next= .cells (clV H5.next H6.next rg tr (.slice an i cn)) 56 true:=by rw [oldE _ (by omega)];exact gc
  rw [hHD] at eE
  obtain ⟨a2,c2,hv2,_⟩:=hA.len
  subst hv2
  simp [kop,gcC,clV,zeT,zkv,zjH,zaD,zaR,zaN,cellsL,wr,w1,hlC,hlC2,zbz,rd,eE,gcE,kSt,zaq]
  have og:∀k,k≠H9.next→k< H9.next+1→∀x,(HE.put H9.next x).get k=HA.get k:=fun k h1 h2 x=>by rw [zap h1];exact oldE k h2
  refine ⟨2 - (i+1),by omega,i+1,.slice a2 (i+1) c2,cs++ [.pointer (some ⟨HC.next,0,none⟩)],⟨by omega,rfl,?_,?_,?_,?_,?_,?_,?_,?_,?_,?_⟩,?_⟩
  ·rw [og _ (by omega) (by omega)];exact gb
  ·exact za7 (by omega)
  ·rw [og _ (by omega) (by omega)];exact gl
  ·rw [og _ (by omega) (by omega)];exact gt'
  ·rw [next_put];omega
  ·exact (hA.kp fun k hk1 hk2=>zap (by omega)).mono (by rw [next_put];exact Nat.le_refl _)
  ·simp [e1']
  ·simp [e3']
  ·simp [e29]
  ·simp
  ·refine ⟨by rw [next_put];have:=kk.1;omega,fun k hk=>?_⟩
   have:=kkA.1
   rw [og _ (by omega) (by omega)];exact kk.2 k hk
 ·obtain rfl:i=2:=by omega
  obtain ⟨an,cn,hnv,_⟩:=acc.len
  subst hnv
  simp [s5_0,e1',e3',e29,e30]
  exact ⟨⟨_,_,_,_,_,_,_,_,gc,gl,gt'⟩,kk⟩
end
section
variable {H:Heap} {c:Nat} {k:Int}
theorem zea (h:Cl H c) (hk:k< 1∨2< k):Wf S 31 [.pointer (some ⟨c,0,none⟩),.int .i64 k] H fun v H'=>H'=H∧v= .pointer none:=by
 obtain ⟨lg,st,rg,tr,a2,c2,a,cc,gc,gl,gt⟩:=h
 refine w31 rfl rfl _ _ ?_
 by_cases h1:k< 1
 ·simp [s31,kEq,h1]
 ·have h2:2< k:=by omega
  simp [s31,kEq,h1,zal,gc,clV,h2]
theorem zkw:Wf S 31 [.pointer none,.int .i64 k] H fun v H'=>H'=H∧v= .pointer none:=by
 refine w31 rfl rfl _ _ ?_
 simp [s31,kEq]
theorem zhm (h:Cl H c) (hk:k< 1∨2< k):Wf S 6 [.pointer (some ⟨c,0,none⟩),.int .i64 k] H fun v H'=>H'=H∧v= .tuple #[.int .i64 0,.int .i64 0]:=by
 refine w6 rfl rfl _ _ ?_
 simp [s6]
 refine (zea h hk).mono ?_
 rintro v H1 ⟨rfl,rfl⟩
 simp [kEq,tup]
theorem zhn (h:Cl H c) (hk:k< 1∨2< k):Wf S 17 [.pointer (some ⟨c,0,none⟩),.int .i64 k] H fun v H'=>H'=H∧v= .slice none 0 0:=by
 refine w17 rfl rfl _ _ ?_
 simp [s17]
 refine (zea h hk).mono ?_
 rintro v H1 ⟨rfl,rfl⟩
 simp [kEq,tup]
theorem zho (h:Cl H c) (hk:k< 1∨2< k):Wf S 18 [.pointer (some ⟨c,0,none⟩),.int .i64 k] H fun v H'=>H'=H∧v= .int .i64 0:=by
 refine w18 rfl rfl _ _ ?_
 simp [s18]
 refine (zea h hk).mono ?_
 rintro v H1 ⟨rfl,rfl⟩
 simp [kEq,tup]
theorem zhp (h:Cl H c) (hk:k< 1∨2< k):Wf S 19 [.pointer (some ⟨c,0,none⟩),.int .i64 k] H fun v H'=>H'=H∧v= .int .i64 0:=by
 refine w19 rfl rfl _ _ ?_
 simp [s19]
 refine (zea h hk).mono ?_
 rintro v H1 ⟨rfl,rfl⟩
 simp [kEq,tup]
theorem zjI (h:Cl H c) (hk:k< 1∨2< k):Wf S 16 [.pointer (some ⟨c,0,none⟩),.int .i64 k] H fun v H'=>H'=H∧v= .bool false:=by
 refine w16 rfl rfl _ _ ?_
 simp [s16]
 refine (zea h hk).mono ?_
 rintro v H1 ⟨rfl,rfl⟩
 simp [kEq,tup]
theorem zhq:Wf S 16 [.pointer none,.int .i64 k] H fun v H'=>H'=H∧v= .bool false:=by
 refine w16 rfl rfl _ _ ?_
 simp [s16]
 refine zkw.mono ?_
 rintro v H1 ⟨rfl,rfl⟩
 simp [kEq,tup]
theorem zhr (h:Cl H c) (hk:k< 1∨2< k):Wf S 20 [.pointer (some ⟨c,0,none⟩),.int .i64 k] H fun v H'=>H'=H∧v= .int .i64 0:=by
 refine w20 rfl rfl _ _ ?_
 simp [s20]
 refine (zea h hk).mono ?_
 rintro v H1 ⟨rfl,rfl⟩
 simp [kEq,tup]
theorem zhs (h:Cl H c) (hk:k< 1∨2< k):Wf S 21 [.pointer (some ⟨c,0,none⟩),.int .i64 k] H fun v H'=>H'=H∧v= .bool false:=by
 refine w21 rfl rfl _ _ ?_
 simp [s21]
 refine (zea h hk).mono ?_
 rintro v H1 ⟨rfl,rfl⟩
 simp [kEq,tup]
theorem zfi (h:Cl H c) (hk:k< 1∨2< k):Wf S 22 [.pointer (some ⟨c,0,none⟩),.int .i64 k] H fun v H'=>H'=H∧v= .string (bs []):=by
 refine w22 rfl rfl _ _ ?_
 simp [s22]
 refine (zea h hk).mono ?_
 rintro v H1 ⟨rfl,rfl⟩
 simp [kEq,tup]
theorem zht (h:Cl H c) (hk:k< 1∨2< k):Wf S 23 [.pointer (some ⟨c,0,none⟩),.int .i64 k] H fun v H'=>H'=H∧v= .string (bs []):=by
 refine w23 rfl rfl _ _ ?_
 simp [s23]
 refine (zea h hk).mono ?_
 rintro v H1 ⟨rfl,rfl⟩
 simp [kEq,tup]
theorem zkx {tr cc:Nat} {a:Option Addr} (gt:H.get tr= .cells [.slice a 2 cc] 87 true):Wf S 105 [.pointer (some ⟨tr,0,none⟩)] H fun v H'=>H'=H∧v= .int .i64 2:=by
 refine w105 rfl rfl _ ?_
 simp [s105,kEq,zal,gt]
theorem zky {tr cc:Nat} {a:Option Addr} (gt:H.get tr= .cells [.slice a 2 cc] 87 true) (hk:k< 1∨2< k):Wf S 73 [.pointer (some ⟨tr,0,none⟩),.int .i64 k] H fun v H'=>H'=H∧v= .bool false:=by
 refine w73 rfl rfl _ _ ?_
 by_cases h1:1≤k
 ·have h2:¬k≤2:=by omega
  simp [s73,h1]
  refine (zkx gt).mono ?_
  rintro v H1 ⟨rfl,rfl⟩
  simp [h1,h2]
 ·simp [s73,h1]
theorem zkz {tr cc:Nat} {a:Option Addr} (gt:H.get tr= .cells [.slice a 2 cc] 87 true) (hk:k< 1∨2< k):Wf S 46 [.pointer (some ⟨tr,0,none⟩),.int .i64 k] H fun v H'=>H'=H∧v= .int .i64 0:=by
 refine w46 rfl rfl _ _ ?_
 simp [s46]
 refine (zky gt hk).mono ?_
 rintro v H1 ⟨rfl,rfl⟩
 simp
theorem zkA {tr cc:Nat} {a:Option Addr} (gt:H.get tr= .cells [.slice a 2 cc] 87 true) (hk:k< 1∨2< k) (m:Int):Wf S 47 [.pointer (some ⟨tr,0,none⟩),.int .i64 k,.int .i64 m] H fun v H'=>H'=H∧v= .int .i64 0:=by
 refine w47 rfl rfl _ _ _ ?_
 simp [s47]
 refine (zky gt hk).mono ?_
 rintro v H1 ⟨rfl,rfl⟩
 simp
theorem zeb (h:Cl H c) (hk:k< 1∨2< k):Wf S 14 [.pointer (some ⟨c,0,none⟩),.int .i64 k] H fun v H'=>H'=H∧v= .int .i64 0:=by
 obtain ⟨lg,st,rg,tr,a2,c2,a,cc,gc,gl,gt⟩:=h
 refine w14 rfl rfl _ _ ?_
 simp [s14,kEq,zal,gc,clV]
 refine (zkz gt hk).mono ?_
 rintro v H1 ⟨rfl,rfl⟩
 simp
theorem zfj (h:Cl H c) (hk:k< 1∨2< k):Wf S 15 [.pointer (some ⟨c,0,none⟩),.int .i64 k] H fun v H'=>H'=H∧v= .int .i64 0:=by
 obtain ⟨lg,st,rg,tr,a2,c2,a,cc,gc,gl,gt⟩:=h
 have hlen:Wf S 41 [.pointer (some ⟨lg,0,none⟩)] H fun v H'=>H'=H∧v= .int .i64 0:=by
  refine w41 rfl rfl _ ?_
  simp [s41,kEq,zal,gl]
 refine w15 rfl rfl _ _ ?_
 simp [s15,kEq,zal,gc,clV]
 refine hlen.mono ?_
 rintro v H1 ⟨rfl,rfl⟩
 simp [kop,gc,clV,zjH]
 refine (zkA gt hk 0).mono ?_
 rintro v H1 ⟨rfl,rfl⟩
 simp
theorem n8_t:Wf S 8 [.pointer none] H fun v H'=>H'=H∧v= .int .i64 0:=by
 refine w8 rfl rfl _ ?_
 simp [s8,kEq]
theorem n9_t:Wf S 9 [.pointer none] H fun v H'=>H'=H∧v= .int .i64 0:=by
 refine w9 rfl rfl _ ?_
 simp [s9,kEq]
theorem n10_t:Wf S 10 [.pointer none] H fun v H'=>H'=H∧v= .int .i64 0:=by
 refine w10 rfl rfl _ ?_
 simp [s10,kEq]
theorem n11_t:Wf S 11 [.pointer none] H fun v H'=>H'=H∧v= .slice none 0 0:=by
 refine w11 rfl rfl _ ?_
 simp [s11,kEq]
theorem n12_t:Wf S 12 [.pointer none] H fun v H'=>H'=H∧v= .slice none 0 0:=by
 refine w12 rfl rfl _ ?_
 simp [s12,kEq]
theorem n13_t:Wf S 13 [.pointer none] H fun v H'=>H'=H∧v= .slice none 0 0:=by
 refine w13 rfl rfl _ ?_
 simp [s13,kEq]
theorem n14_t:Wf S 14 [.pointer none,.int .i64 k] H fun v H'=>H'=H∧v= .int .i64 0:=by
 refine w14 rfl rfl _ _ ?_
 simp [s14,kEq]
theorem n15_t:Wf S 15 [.pointer none,.int .i64 k] H fun v H'=>H'=H∧v= .int .i64 0:=by
 refine w15 rfl rfl _ _ ?_
 simp [s15,kEq]
theorem n7_t {x:Array Value} (hx:x.size=5):Wf S 7 [.pointer none,.agg x] H fun v H'=>Kp H.next H H'∧v= .int .i64 1:=by
 refine w7 rfl rfl _ _ ?_
 simp [s7,kEq,zaN,cellsL]
 exact Kp.push (Nat.le_refl _)
end
theorem Cl.kp {H H':Heap} {c:Nat} (h:Cl H c) (hk:Kp H.next H H'):Cl H' c:=by
 obtain ⟨lg,st,rg,tr,a2,c2,a,cc,gc,gl,gt⟩:=h
 exact ⟨lg,st,rg,tr,a2,c2,a,cc,by rw [hk.2 _ (zcB gc)];exact gc,by rw [hk.2 _ (zcB gl)];exact gl,by rw [hk.2 _ (zcB gt)];exact gt⟩
theorem zf5 (cs:List Value) (h5:cs.length=5) (n:Int) {H:Heap}:Wf S 3 [.agg cs.toArray,.int .i64 n] H fun v _=>v= .bool true:=by
 refine w3 rfl rfl _ _ ?_
 obtain ⟨H1,hH1⟩:∃H1,H1=H.push (.cells cs 23 true):=⟨_,rfl⟩
 have g1:H1.get H.next= .cells cs 23 true:=by rw [hH1];exact zaL
 have n1:H1.next=H.next+1:=by rw [hH1];simp
 simp [s3,zaN,cellsL,←hH1]
 refine zhS aw32_prim ⟨_,_,rfl,?_⟩
 simp [zaD,zaR,zaN,cellsL,wr]
 refine zij.mono ?_
 rintro v H2 ⟨c,rfl,hc,k2⟩
 have g2:H2.get H.next= .cells cs 23 true:=by rw [k2.2 _ (by omega)];exact g1
 have hrd:rd cs 0 5=some cs:=by unfold rd;rw [if_pos (by omega),List.drop_zero,List.take_of_length_le (by omega)]
 have hsz:cs.toArray.size=5:=by simp [h5]
 by_cases h1:1≤n
 ·by_cases h2:n≤2
  ·simp [h1,h2]
   refine (zhm hc (by omega)).mono ?_
   rintro v H3 ⟨rfl,rfl⟩
   simp [g2,hrd,zbq]
   refine (n7_t hsz).mono ?_
   rintro v H4 ⟨k4,rfl⟩
   have hc4:=hc.kp k4
   try simp
   refine (n8_t).mono ?_
   rintro v H5 ⟨rfl,rfl⟩
   try simp
   refine (n9_t).mono ?_
   rintro v H5 ⟨rfl,rfl⟩
   try simp
   refine (n10_t).mono ?_
   rintro v H5 ⟨rfl,rfl⟩
   try simp
   refine (n11_t).mono ?_
   rintro v H5 ⟨rfl,rfl⟩
   try simp
   refine (n12_t).mono ?_
   rintro v H5 ⟨rfl,rfl⟩
   try simp
   refine (n13_t).mono ?_
   rintro v H5 ⟨rfl,rfl⟩
   try simp
   refine (n14_t).mono ?_
   rintro v H5 ⟨rfl,rfl⟩
   try simp
   refine (n15_t).mono ?_
   rintro v H5 ⟨rfl,rfl⟩
   try simp
   refine (zhq).mono ?_
   rintro v H5 ⟨rfl,rfl⟩
   try simp
   refine (zhn hc4 (by omega)).mono ?_
   rintro v H5 ⟨rfl,rfl⟩
   try simp
   refine (zho hc4 (by omega)).mono ?_
   rintro v H5 ⟨rfl,rfl⟩
   try simp
   refine (zhp hc4 (by omega)).mono ?_
   rintro v H5 ⟨rfl,rfl⟩
   try simp
   refine (zjI hc4 (by omega)).mono ?_
   rintro v H5 ⟨rfl,rfl⟩
   try simp
   refine (zhr hc4 (by omega)).mono ?_
   rintro v H5 ⟨rfl,rfl⟩
   try simp
   refine (zhs hc4 (by omega)).mono ?_
   rintro v H5 ⟨rfl,rfl⟩
   try simp
   refine (zeb hc4 (by omega)).mono ?_
   rintro v H5 ⟨rfl,rfl⟩
   try simp
   refine (zfj hc4 (by omega)).mono ?_
   rintro v H5 ⟨rfl,rfl⟩
   try simp
   refine (zfi hc4 (by omega)).mono ?_
   rintro v H5 ⟨rfl,rfl⟩
   try simp
   refine (zht hc4 (by omega)).mono ?_
   rintro v H5 ⟨rfl,rfl⟩
   try simp
  ·simp [h1,h2]
   refine (zhm hc (by omega)).mono ?_
   rintro v H3 ⟨rfl,rfl⟩
   simp [g2,hrd,zbq]
   refine (n7_t hsz).mono ?_
   rintro v H4 ⟨k4,rfl⟩
   have hc4:=hc.kp k4
   try simp
   refine (n8_t).mono ?_
   rintro v H5 ⟨rfl,rfl⟩
   try simp
   refine (n9_t).mono ?_
   rintro v H5 ⟨rfl,rfl⟩
   try simp
   refine (n10_t).mono ?_
   rintro v H5 ⟨rfl,rfl⟩
   try simp
   refine (n11_t).mono ?_
   rintro v H5 ⟨rfl,rfl⟩
   try simp
   refine (n12_t).mono ?_
   rintro v H5 ⟨rfl,rfl⟩
   try simp
   refine (n13_t).mono ?_
   rintro v H5 ⟨rfl,rfl⟩
   try simp
   refine (n14_t).mono ?_
   rintro v H5 ⟨rfl,rfl⟩
   try simp
   refine (n15_t).mono ?_
   rintro v H5 ⟨rfl,rfl⟩
   try simp
   refine (zhq).mono ?_
   rintro v H5 ⟨rfl,rfl⟩
   try simp
   refine (zhn hc4 (by omega)).mono ?_
   rintro v H5 ⟨rfl,rfl⟩
   try simp
   refine (zho hc4 (by omega)).mono ?_
   rintro v H5 ⟨rfl,rfl⟩
   try simp
   refine (zhp hc4 (by omega)).mono ?_
   rintro v H5 ⟨rfl,rfl⟩
   try simp
   refine (zjI hc4 (by omega)).mono ?_
   rintro v H5 ⟨rfl,rfl⟩
   try simp
   refine (zhr hc4 (by omega)).mono ?_
   rintro v H5 ⟨rfl,rfl⟩
   try simp
   refine (zhs hc4 (by omega)).mono ?_
   rintro v H5 ⟨rfl,rfl⟩
   try simp
   refine (zeb hc4 (by omega)).mono ?_
   rintro v H5 ⟨rfl,rfl⟩
   try simp
   refine (zfj hc4 (by omega)).mono ?_
   rintro v H5 ⟨rfl,rfl⟩
   try simp
   refine (zfi hc4 (by omega)).mono ?_
   rintro v H5 ⟨rfl,rfl⟩
   try simp
   refine (zht hc4 (by omega)).mono ?_
   rintro v H5 ⟨rfl,rfl⟩
   try simp
 ·simp [h1]
  refine (zhm hc (by omega)).mono ?_
  rintro v H3 ⟨rfl,rfl⟩
  simp [g2,hrd,zbq]
  refine (n7_t hsz).mono ?_
  rintro v H4 ⟨k4,rfl⟩
  have hc4:=hc.kp k4
  try simp
  refine (n8_t).mono ?_
  rintro v H5 ⟨rfl,rfl⟩
  try simp
  refine (n9_t).mono ?_
  rintro v H5 ⟨rfl,rfl⟩
  try simp
  refine (n10_t).mono ?_
  rintro v H5 ⟨rfl,rfl⟩
  try simp
  refine (n11_t).mono ?_
  rintro v H5 ⟨rfl,rfl⟩
  try simp
  refine (n12_t).mono ?_
  rintro v H5 ⟨rfl,rfl⟩
  try simp
  refine (n13_t).mono ?_
  rintro v H5 ⟨rfl,rfl⟩
  try simp
  refine (n14_t).mono ?_
  rintro v H5 ⟨rfl,rfl⟩
  try simp
  refine (n15_t).mono ?_
  rintro v H5 ⟨rfl,rfl⟩
  try simp
  refine (zhq).mono ?_
  rintro v H5 ⟨rfl,rfl⟩
  try simp
  refine (zhn hc4 (by omega)).mono ?_
  rintro v H5 ⟨rfl,rfl⟩
  try simp
  refine (zho hc4 (by omega)).mono ?_
  rintro v H5 ⟨rfl,rfl⟩
  try simp
  refine (zhp hc4 (by omega)).mono ?_
  rintro v H5 ⟨rfl,rfl⟩
  try simp
  refine (zjI hc4 (by omega)).mono ?_
  rintro v H5 ⟨rfl,rfl⟩
  try simp
  refine (zhr hc4 (by omega)).mono ?_
  rintro v H5 ⟨rfl,rfl⟩
  try simp
  refine (zhs hc4 (by omega)).mono ?_
  rintro v H5 ⟨rfl,rfl⟩
  try simp
  refine (zeb hc4 (by omega)).mono ?_
  rintro v H5 ⟨rfl,rfl⟩
  try simp
  refine (zfj hc4 (by omega)).mono ?_
  rintro v H5 ⟨rfl,rfl⟩
  try simp
  refine (zfi hc4 (by omega)).mono ?_
  rintro v H5 ⟨rfl,rfl⟩
  try simp
  refine (zht hc4 (by omega)).mono ?_
  rintro v H5 ⟨rfl,rfl⟩
  try simp
end Go.Proofs.YtnbjcbhlbkmhoaaGreat.K
