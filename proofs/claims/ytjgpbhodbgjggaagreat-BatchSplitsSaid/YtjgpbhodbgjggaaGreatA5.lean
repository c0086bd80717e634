/- A part of the proof of PBatchSplits, made small by a program of this work (mini.py). Conditions: none. -/
import Derived.Test.YtjgpbhodbgjggaaGreatRows
import Derived.Shelf.Strings.Repeat
import Derived.Shelf.Strings.BuilderK
import Derived.TacticsIn
import Derived.TacticsInMore
import Derived.LoopIn
import Derived.LoopNIn
import Derived.WalkKit
import Derived.RegionIn
import Derived.Shelf.Strings.OnBuilder
import Derived.Test.YtjgpbhodbgjggaaGreatA4
import Derived.Test.YtjgpbhodbgjggaaGreatA2
import Derived.Test.YtjgpbhodbgjggaaGreatA3
set_option linter.defProp false
set_option linter.unusedVariables false
set_option linter.unusedSimpArgs false
set_option maxRecDepth 100000
set_option maxHeartbeats 4000000
namespace Go.Proofs.YtjgpbhodbgjggaaGreat.K
open Go Go.Proofs Go.Shelf Go.RowKit
def zay:Go.Shelf.Ren:=⟨fun|105=>84|212=>120|99=>121|165=>98|166=>99|170=>122|169=>100|263=>158|264=>159|206=>160|240=>142|241=>143|276=>177|277=>178|n=>n,fun|9=>9|3=>3|4=>4|20=>20|0=>0|46=>127|109=>172|5=>5|72=>142|76=>146|51=>166|146=>212|53=>31|148=>214|70=>140|37=>95|75=>145|127=>196|164=>240|80=>82|n=>n,fun|n=>n⟩
theorem zaB:Go.Proofs.Lays.n105 Go.Proofs.Tryz.prog zay:={
 mixed:=by kernel_rfl
 f99:=Go.Proofs.Tryz.func121.trans (congrArg some (by kernel_rfl))
 f105:=Go.Proofs.Tryz.func84.trans (congrArg some (by kernel_rfl))
 f165:=Go.Proofs.Tryz.func98.trans (congrArg some (by kernel_rfl))
 f166:=Go.Proofs.Tryz.func99.trans (congrArg some (by kernel_rfl))
 f169:=Go.Proofs.Tryz.func100.trans (congrArg some (by kernel_rfl))
 f170:=Go.Proofs.Tryz.func122.trans (congrArg some (by kernel_rfl))
 f206:=Go.Proofs.Tryz.func160.trans (congrArg some (by kernel_rfl))
 f212:=Go.Proofs.Tryz.func120.trans (congrArg some (by kernel_rfl))
 f240:=Go.Proofs.Tryz.func142.trans (congrArg some (by kernel_rfl))
 f241:=Go.Proofs.Tryz.func143.trans (congrArg some (by kernel_rfl))
 f263:=Go.Proofs.Tryz.func158.trans (congrArg some (by kernel_rfl))
 f264:=Go.Proofs.Tryz.func159.trans (congrArg some (by kernel_rfl))
 f276:=Go.Proofs.Tryz.func177.trans (congrArg some (by kernel_rfl))
 f277:=Go.Proofs.Tryz.func178.trans (congrArg some (by kernel_rfl))
 t0:=Go.Proofs.Tryz.underlying0
 a0:=Go.Proofs.Tryz.isAgg0
 z0:=Go.Proofs.Tryz.sizeOf0
 v0:=Go.Proofs.Tryz.zeroValue0
 t3:=Go.Proofs.Tryz.underlying3
 a3:=Go.Proofs.Tryz.isAgg3
 z3:=Go.Proofs.Tryz.sizeOf3
 v3:=Go.Proofs.Tryz.zeroValue3
 t4:=Go.Proofs.Tryz.underlying4
 a4:=Go.Proofs.Tryz.isAgg4
 z4:=Go.Proofs.Tryz.sizeOf4
 v4:=Go.Proofs.Tryz.zeroValue4
 t5:=Go.Proofs.Tryz.underlying5
 a5:=Go.Proofs.Tryz.isAgg5
 z5:=Go.Proofs.Tryz.sizeOf5
 v5:=Go.Proofs.Tryz.zeroValue5
 t9:=Go.Proofs.Tryz.underlying9
 a9:=Go.Proofs.Tryz.isAgg9
 z9:=Go.Proofs.Tryz.sizeOf9
 v9:=Go.Proofs.Tryz.zeroValue9
 t20:=Go.Proofs.Tryz.underlying20
 a20:=Go.Proofs.Tryz.isAgg20
 z20:=Go.Proofs.Tryz.sizeOf20
 v20:=Go.Proofs.Tryz.zeroValue20
 t37:=Go.Proofs.Tryz.underlying95
 a37:=Go.Proofs.Tryz.isAgg95
 z37:=Go.Proofs.Tryz.sizeOf95
 v37:=Go.Proofs.Tryz.zeroValue95
 t46:=Go.Proofs.Tryz.underlying127
 a46:=Go.Proofs.Tryz.isAgg127
 z46:=Go.Proofs.Tryz.sizeOf127
 v46:=Go.Proofs.Tryz.zeroValue127
 t51:=Go.Proofs.Tryz.underlying166
 a51:=Go.Proofs.Tryz.isAgg166
 z51:=Go.Proofs.Tryz.sizeOf166
 v51:=Go.Proofs.Tryz.zeroValue166
 t53:=Go.Proofs.Tryz.underlying31
 a53:=Go.Proofs.Tryz.isAgg31
 z53:=Go.Proofs.Tryz.sizeOf31
 v53:=Go.Proofs.Tryz.zeroValue31
 t70:=Go.Proofs.Tryz.underlying140
 a70:=Go.Proofs.Tryz.isAgg140
 z70:=Go.Proofs.Tryz.sizeOf140
 v70:=Go.Proofs.Tryz.zeroValue140
 t72:=Go.Proofs.Tryz.underlying142
 a72:=Go.Proofs.Tryz.isAgg142
 z72:=Go.Proofs.Tryz.sizeOf142
 v72:=Go.Proofs.Tryz.zeroValue142
 t75:=Go.Proofs.Tryz.underlying145
 a75:=Go.Proofs.Tryz.isAgg145
 z75:=Go.Proofs.Tryz.sizeOf145
 v75:=Go.Proofs.Tryz.zeroValue145
 t76:=Go.Proofs.Tryz.underlying146
 a76:=Go.Proofs.Tryz.isAgg146
 z76:=Go.Proofs.Tryz.sizeOf146
 v76:=Go.Proofs.Tryz.zeroValue146
 t109:=Go.Proofs.Tryz.underlying172
 a109:=Go.Proofs.Tryz.isAgg172
 z109:=Go.Proofs.Tryz.sizeOf172
 v109:=Go.Proofs.Tryz.zeroValue172
 t127:=Go.Proofs.Tryz.underlying196
 a127:=Go.Proofs.Tryz.isAgg196
 z127:=Go.Proofs.Tryz.sizeOf196
 v127:=Go.Proofs.Tryz.zeroValue196
 t146:=Go.Proofs.Tryz.underlying212
 a146:=Go.Proofs.Tryz.isAgg212
 z146:=Go.Proofs.Tryz.sizeOf212
 v146:=Go.Proofs.Tryz.zeroValue212
 t148:=Go.Proofs.Tryz.underlying214
 a148:=Go.Proofs.Tryz.isAgg214
 z148:=Go.Proofs.Tryz.sizeOf214
 v148:=Go.Proofs.Tryz.zeroValue214
 t164:=Go.Proofs.Tryz.underlying240
 a164:=Go.Proofs.Tryz.isAgg240
 z164:=Go.Proofs.Tryz.sizeOf240
 v164:=Go.Proofs.Tryz.zeroValue240}
theorem zcD:Builder.Extra Go.Proofs.Tryz.prog zay:={
 sizeBuilder:=by kernel_rfl
 liesBuilder:=by kernel_rfl
 t5:=zaB.t5
 a5:=zaB.a5
 z5:=zaB.z5
 v5:=zaB.v5
 infoByte:=by kernel_rfl
 cellsByte:=by kernel_rfl
 sizeByte:=by kernel_rfl
 neB5:=by decide}
theorem zh7:zay.f 105=84:=by kernel_rfl
def zeS:List Value→Heap→Option (Value×Heap)
 | [.string s,.int .i64 n],H=>if 0≤n∧(s.size:Int)*n≤1000000000∧n≤1000000000 then some (.string ⟨(Lib.repeatL s.data.toList n.toNat).toArray⟩,H) else none
 |_,_=>none
theorem zjq:zbe Go.Proofs.Tryz.prog 84 zeS:=by
 refine ⟨by kernel_rfl,?_⟩
 intro B w0 args H v H' h ρ w cargs hrel hv
 unfold zeS at h
 split at h
 ·rename_i s n
  split at h
  ·rename_i hc
   obtain ⟨c,rfl⟩:∃c:Nat,n=(c:Int):=⟨n.toNat,by omega⟩
   simp only [Option.some.injEq,Prod.mk.injEq] at h
   obtain ⟨rfl,rfl⟩:=h
   obtain ⟨y,hy,h1⟩:=hv.get (i:=0) rfl
   obtain ⟨z,hz,h2⟩:=hv.get (i:=1) rfl
   obtain ⟨hl,-⟩:=hv
   obtain ⟨y',z',rfl⟩:∃y' z',cargs= [y',z']:=by
    match cargs,hl with
    | [a,b],_=>exact ⟨a,b,rfl⟩
   simp at hy hz
   subst hy;subst hz
   cases h1;cases h2
   have hcn:s.size*c≤1000000000:=by
    have:=hc.2.1
    rw [←Int.natCast_mul] at this
    omega
   have hr:=Any.strings_Repeat zaB zcD s c w (by omega) (by omega)
   rw [zh7] at hr
   refine hr.mono fun e w' ⟨he,hb⟩=>⟨ρ,_,he,List.prefix_refl _,?_,hrel.world ⟨hb.os,hb.tape,hb.output,hb.size,fun k hk=>hb.block k (hrel.base k hk)⟩ hb.block⟩
   rw [Int.toNat_natCast]
   constructor
  ·cases h
 ·cases h
def zfm:List UInt8→List (Int×Int×Int)→List UInt8
 |t,[]=>t
 |t,s::l=>t.take s.1.toNat++zfm ((t.drop s.1.toNat).drop s.2.1.toNat) l
def sq3c (l:List (Int×Int×Int)):List Value:=l.flatMap fun s=> [.int .i64 s.1,.int .i64 s.2.1,.int .i64 s.2.2]
def mN (n:Nat):Value→Nat
 | .int _ x=>n - x.toNat
 |_=>0
theorem zf9 {T e:TypeId} {B b:Nat} {bs:List Value} {w:World} (h:Lib.IsBuilderF T e B b bs w) (o:Obj):Lib.IsBuilderF T e B b bs (w.alloc o):=by
 have key:∀p,Lib.BuilderAtF T e B b p bs w→Lib.BuilderAtF T e B b p bs (w.alloc o):=by
  rintro p ⟨h1,v,h2,h3,h4⟩
  have keep:∀{g:Nat} {x:Obj},w.heap[g]? =some x→(w.alloc o).heap[g]? =some x:=fun {g x} hg=>(Below.heap_alloc _ _ _ (Array.getElem?_eq_some_iff.1 hg).1).trans hg
  refine ⟨h1,v,keep h2,⟨h3.1,?_⟩,h4⟩
  rcases h3.2 with h5|⟨g,cap,cur,fz,a1,a2,a3,a4⟩
  ·exact .inl h5
  ·exact .inr ⟨g,cap,cur,fz,a1,a2,keep a3,a4⟩
 exact h.imp (key _) (key _)
theorem zdt (t:ByteArray) (m:Nat) (hm:t.size=m) (x:Int):(t.extract (min (max x 0) (m:Int)).toNat m).data.toList=t.data.toList.drop x.toNat:=by
 subst hm
 rw [Lib.extract_data]
 obtain ⟨l,hl⟩:∃l,l=t.data.toList:=⟨_,rfl⟩
 rw [←hl]
 have hsz:t.size=l.length:=by rw [hl];exact Lib.size_eq t
 rw [hsz,List.take_of_length_le (by simp)]
 rcases Nat.lt_or_ge x.toNat l.length with h|h
 ·congr 1;omega
 ·rw [List.drop_eq_nil_of_le (by omega),List.drop_eq_nil_of_le (by omega)]
theorem zhn (t:ByteArray) (x:Int):(t.extract 0 (min (max x 0) (t.size:Int)).toNat).data.toList=t.data.toList.take x.toNat:=by
 rw [Lib.extract_data]
 obtain ⟨l,hl⟩:∃l,l=t.data.toList:=⟨_,rfl⟩
 rw [←hl]
 have hsz:t.size=l.length:=by rw [hl];exact Lib.size_eq t
 rw [hsz,List.drop_zero,Nat.sub_zero]
 rcases Nat.lt_or_ge x.toNat l.length with h|h
 ·congr 1;omega
 ·rw [List.take_of_length_le (by omega),List.take_of_length_le (by omega)]
theorem zkf (text:ByteArray) (hts:text.size≤1000000) (ss:List (Int×Int×Int)) (hn:ss.length≤1000000) (a:Option Addr) (k:Nat) (W:World)
  (hsv:ss= []∨∃b o,a=some ⟨b,o,none⟩∧b< W.heap.size∧∀(j:Nat) v,(sq3c ss)[j]? =some v→W.cell? ⟨b,o+j,none⟩=some v):
  Calls Go.Proofs.Tryz.prog 77 #[.string text,.slice a ss.length k] W fun e w'=>e= .returned (.string ⟨(zfm text.data.toList ss).toArray⟩)∧Below W.heap.size W w':=by
 have mixed:Go.Proofs.Tryz.prog.follows .mixedOrders=true:=by kernel_rfl
 have t108:=Go.Proofs.Tryz.underlying108;have a108:=Go.Proofs.Tryz.isAgg108;have z108:=Go.Proofs.Tryz.sizeOf108;have v108:=Go.Proofs.Tryz.zeroValue108
 have t155:=Go.Proofs.Tryz.underlying155;have a155:=Go.Proofs.Tryz.isAgg155;have z155:=Go.Proofs.Tryz.sizeOf155;have v155:=Go.Proofs.Tryz.zeroValue155
 have t142:=Go.Proofs.Tryz.underlying142;have a142:=Go.Proofs.Tryz.isAgg142;have z142:=Go.Proofs.Tryz.sizeOf142;have v142:=Go.Proofs.Tryz.zeroValue142
 have t3:=Go.Proofs.Tryz.underlying3;have a3:=Go.Proofs.Tryz.isAgg3;have z3:=Go.Proofs.Tryz.sizeOf3;have v3:=Go.Proofs.Tryz.zeroValue3
 have t4:=Go.Proofs.Tryz.underlying4;have a4:=Go.Proofs.Tryz.isAgg4;have z4:=Go.Proofs.Tryz.sizeOf4;have v4:=Go.Proofs.Tryz.zeroValue4
 have t9:=Go.Proofs.Tryz.underlying9;have a9:=Go.Proofs.Tryz.isAgg9;have z9:=Go.Proofs.Tryz.sizeOf9;have v9:=Go.Proofs.Tryz.zeroValue9
 have u108:=run_underlying t108;have u155:=run_underlying t155;have u142:=run_underlying t142;have u3:=run_underlying t3;have u4:=run_underlying t4;have u9:=run_underlying t9
 have hnt:Go.Proofs.Tryz.f77.ntmps=40:=by kernel_rfl
 have e99:∀args w,(callFunc 99 args).run Go.Proofs.Tryz.prog w= .ok (.enter 99 args) w:=enters_of Go.Proofs.Tryz.func99 (by kernel_rfl) rfl
 have e100:∀args w,(callFunc 100 args).run Go.Proofs.Tryz.prog w= .ok (.enter 100 args) w:=enters_of Go.Proofs.Tryz.func100 (by kernel_rfl) rfl
 go_enter Go.Proofs.Tryz.func77,hnt
 go_wp2
 have b0:Below W.heap.size W (W.alloc (.cells #[.pointer none,.slice none 0 0] 142)):=(Below.refl _ W).alloc (Nat.le_refl _) _
 have h00:Lib.IsBuilderF (zay.t 72) (zay.t 5) W.heap.size W.heap.size (Lib.byteCells []) (W.alloc (.cells #[.pointer none,.slice none 0 0] 142)):=by
  exact .inl ⟨Nat.le_refl _,_,heap_alloc_new W _,⟨rfl,.inl ⟨rfl,rfl⟩⟩,by simp [Value.ownBlock]⟩
 go_loopw [0,11] (fun s0 s11 wx=>∃(i:Nat) (t:ByteArray) (dn:List UInt8),i≤ss.length∧s11= .int .i64 i∧s0= .string t∧zfm text.data.toList ss=dn++zfm t.data.toList (ss.drop i)∧dn.length+t.size≤text.size∧Lib.IsBuilderF (zay.t 72) (zay.t 5) W.heap.size W.heap.size (Lib.byteCells dn) wx∧Below W.heap.size W wx)
  (fun s0 s11 wx=>mN ss.length s11)
 case atStart=>exact ⟨0,text,[],by omega,rfl,rfl,rfl,by simp,h00,b0⟩
 case round=>
  obtain ⟨i,t,dn,hi,rfl,rfl,hlit,hsz,hB,hb⟩:=hrel
  by_cases hin:i=ss.length
  ·subst hin
   have cW:=Any.Builder_WriteString_f {zaB with} zcD W.heap.size W.heap.size (Lib.byteCells dn) t wr hB (by rw [Lib.byteCells_length];omega) hb.size
   go_wp2_with (go_at_fn 99;go_fit cW;rintro e W2 ⟨rfl,h2,b2⟩)
   rw [Lib.strCells_eq,←Lib.byteCells_append] at h2
   have cS:=Any.Builder_String_any_f {zaB with} zcD W.heap.size W.heap.size (dn++t.data.toList) W2 (.inr h2) (Nat.le_trans hb.size b2.size)
   go_wp2_with (go_at_fn 100;go_fit cS;rintro e W3 ⟨rfl,h3,b3⟩)
   go_ret
   refine ⟨?_,hb.trans (b2.trans b3)⟩
   rw [hlit,List.drop_length];rfl
  ·rcases hsv with rfl|⟨b,o,rfl,hbl,hcell⟩
   ·simp at hi;simp at hin;omega
   have hlt:i< ss.length:=by omega
   obtain ⟨x,hx⟩:∃x,ss[i]? =some x:=⟨ss[i],List.getElem?_eq_getElem hlt⟩
   obtain ⟨x1,x2,x3⟩:=x
   have hcl:∀j,j< 3→wr.cell? ⟨b,o+i*3+j,none⟩=([Value.int .i64 x1,.int .i64 x2,.int .i64 x3][j]?):=by
    intro j hj
    have h1:(sq3c ss)[i*3+j]? = [Value.int .i64 x1,.int .i64 x2,.int .i64 x3][j]? :=zeI (z:=3) (fun _=>rfl) hx hj
    obtain ⟨v,hv⟩:∃v,[Value.int .i64 x1,.int .i64 x2,.int .i64 x3][j]? =some v:=⟨_,List.getElem?_eq_getElem (by simpa using hj)⟩
    rw [hv] at h1⊢
    have h2:=hcell _ _ h1
    rw [Nat.add_assoc]
    exact (hb.cell hbl).trans h2
   have c0:=hcl 0 (by omega);have c1:=hcl 1 (by omega);have c2:=hcl 2 (by omega)
   simp only [List.getElem?_cons_zero,List.getElem?_cons_succ,Nat.add_zero] at c0 c1 c2
   clear hcl hcell
   obtain ⟨w1,hw1⟩:∃w1,w1=wr.alloc (.cells #[.int .i64 x1,.int .i64 x2,.int .i64 x3] 155):=⟨_,rfl⟩
   have hnw:w1.heap[wr.heap.size]? =some (.cells #[.int .i64 x1,.int .i64 x2,.int .i64 x3] 155):=by rw [hw1];exact heap_alloc_new wr _
   have cW:=Any.Builder_WriteString_k {zaB with} zcD W.heap.size W.heap.size (Lib.byteCells dn) (t.extract 0 (min (max x1 0) (t.size:Int)).toNat) w1 (by rw [hw1];exact zf9 hB _) (by rw [Lib.byteCells_length,Lib.size_eq,Lib.extract_data];simp;omega) (by rw [hw1,World.size_alloc];exact Nat.le_succ_of_le hb.size)
   have hbw:Below W.heap.size W w1:=by rw [hw1];exact hb.alloc hb.size _
   have hne:wr.heap.size≠W.heap.size:=by
    intro h
    obtain ⟨g,hg⟩:∃g:Obj,wr.heap[W.heap.size]? =some g:=by
     rcases hB with h|h<;>obtain ⟨_,v,h2,_⟩:=h<;>exact ⟨_,h2⟩
    have:=(Array.getElem?_eq_some_iff.1 hg).1
    omega
   have hk2:some wr.heap.size≠some W.heap.size:=fun e=>hne (Option.some.inj e)
   have hk3:∀c fz,Obj.cells #[.int .i64 x1,.int .i64 x2,.int .i64 x3] 155≠ .cells c (zay.t 5) fz:=by
    intro c fz h
    injection h with _ h1 _
    exact absurd h1 (by decide)
   rw [hw1] at cW hnw
   go_wp2_with (go_at_fn 99;go_fit cW;(rintro e W2 ⟨rfl,h2,b2,k2⟩;have hl2:W2.heap[wr.heap.size]? =some (.cells #[.int .i64 x1,.int .i64 x2,.int .i64 x3] 155):=k2 _ _ hnw hk2 hk3;have d1:W2.cell? ⟨wr.heap.size,1,none⟩=some (.int .i64 x2):=by simp [World.cell?,hl2]))
   have hA:(t.extract (min (max x1 0) (t.size:Int)).toNat t.size).size=t.size - (min (max x1 0) (t.size:Int)).toNat:=by
    rw [Lib.size_eq,zdt t _ rfl,List.length_drop,←Lib.size_eq]
    omega
   have hu:((t.extract (min (max x1 0) (t.size:Int)).toNat t.size).extract (min (max x2 0) ((t.size - (min (max x1 0) (t.size:Int)).toNat:Nat):Int)).toNat (t.size - (min (max x1 0) (t.size:Int)).toNat)).data.toList=(t.data.toList.drop x1.toNat).drop x2.toNat:=by
    rw [zdt _ _ hA,zdt t _ rfl]
   rw [Lib.strCells_eq,←Lib.byteCells_append,zhn] at h2
   refine ⟨⟨i+1,_,dn++t.data.toList.take x1.toNat,by omega,rfl,rfl,?_,?_,.inr h2,hbw.trans (by rw [hw1];exact b2)⟩,by simp only [mN];omega⟩
   ·rw [hlit,hu,List.drop_eq_getElem_cons hlt,show ss[i]=(x1,x2,x3) from Option.some.inj ((List.getElem?_eq_getElem hlt).symm.trans hx)]
    simp only [zfm,List.append_assoc]
   ·rw [Lib.size_eq,hu]
    have:=Lib.size_eq t
    simp only [List.length_append,List.length_take,List.length_drop]
    omega
def bkM:Value→Nat
 | .int _ x=>(x+1).toNat
 |_=>0
theorem zho:zdj Go.Proofs.Tryz.prog 255:=by
 refine ⟨by kernel_rfl,?_⟩
 intro l c n J Jx W hn hsl hJ hround
 obtain ⟨a0,k0,hc0⟩:=hsl
 have mixed:Go.Proofs.Tryz.prog.follows .mixedOrders=true:=by kernel_rfl
 have t95:=Go.Proofs.Tryz.underlying95;have a95:=Go.Proofs.Tryz.isAgg95;have z95:=Go.Proofs.Tryz.sizeOf95;have v95:=Go.Proofs.Tryz.zeroValue95
 have t3:=Go.Proofs.Tryz.underlying3;have a3:=Go.Proofs.Tryz.isAgg3;have z3:=Go.Proofs.Tryz.sizeOf3;have v3:=Go.Proofs.Tryz.zeroValue3
 have t5:=Go.Proofs.Tryz.underlying5;have a5:=Go.Proofs.Tryz.isAgg5;have z5:=Go.Proofs.Tryz.sizeOf5;have v5:=Go.Proofs.Tryz.zeroValue5
 have t4:=Go.Proofs.Tryz.underlying4;have a4:=Go.Proofs.Tryz.isAgg4;have z4:=Go.Proofs.Tryz.sizeOf4;have v4:=Go.Proofs.Tryz.zeroValue4
 have u95:=run_underlying t95;have u3:=run_underlying t3;have u5:=run_underlying t5;have u4:=run_underlying t4
 have hnt:Go.Proofs.Tryz.f255.ntmps=19:=by kernel_rfl
 refine callsIn_of_wp Go.Proofs.Tryz.func255 rfl trivial ?_ rfl
 simp only [hnt,List.size_toArray,List.length_cons,List.length_nil,Nat.reduceAdd,Nat.reduceSub,Array.replicate_succ,Array.replicate_zero,List.push_toArray,List.append_toArray,List.nil_append,List.cons_append]
 gi_wp2
 gi_loopw [3] (fun s wx=>∃i:Nat,i≤n∧((i=0∧s= .int .i64 (-1))∨∃j:Nat,i=j+1∧s= .int .i64 j)∧J i wx) (fun s wx=>bkM s)
 case atStart=>
  refine ⟨n,Nat.le_refl _,?_,hJ⟩
  cases n with
  |zero=>exact .inl ⟨rfl,rfl⟩
  |succ m=>refine .inr ⟨m,rfl,?_⟩;congr 1;omega
 case round=>
  obtain ⟨i,hi,hs,hJi⟩:=hrel
  rcases hs with ⟨rfl,rfl⟩|⟨j,rfl,rfl⟩
  ·gi_wp2
   go_end0
   exact ⟨⟨_,rfl⟩,.inl hJi⟩
  ·obtain ⟨a1,n',k1,x,hc1,hin,hsp,hx,fn,tmps,assign,body,hy,hR⟩:=hround j _ (by omega) hJi
   obtain ⟨ab,ao,sp⟩:=a1
   simp only at hsp
   subst hsp
   gi_wp2
   refine hR.mono ?_
   rintro e W3 (⟨rfl,hJ3⟩|⟨rfl,hJx3⟩)
   ·gi_wp2
    go_roundw
    case rel=>
     refine ⟨j,by omega,?_,hJ3⟩
     cases j with
     |zero=>exact .inl ⟨rfl,by congr 1⟩
     |succ m=>refine .inr ⟨m,rfl,?_⟩;congr 1;omega
    case measure=>simp only [bkM];omega
   ·gi_wp2
    refine bodyPost_ret (results_none rfl _ _ _) rfl ?_
    exact ⟨⟨_,rfl⟩,.inr hJx3⟩
def sq3:List Value→Option (List (Int×Int×Int))
 | []=>some []
 | .int .i64 a:: .int .i64 b:: .int .i64 c::l=>(sq3 l).map ((a,b,c)::·)
 |_=>none
theorem sq3_ok:∀(cs:List Value) {ss:List (Int×Int×Int)},sq3 cs=some ss→cs=sq3c ss
 | [],ss,h=>by simp [sq3] at h;subst h;rfl
 | .int .i64 a:: .int .i64 b:: .int .i64 c::l,ss,h=>by
   simp only [sq3,Option.map_eq_some_iff] at h
   obtain ⟨s2,h2,rfl⟩:=h
   rw [sq3_ok l h2];rfl
theorem sq3c_len (ss:List (Int×Int×Int)):(sq3c ss).length=ss.length*3:=zeH (z:=3) (fun _=>rfl) ss
def zga:List Value→Heap→Option (Value×Heap)
 | [.string text,.slice a n c],H=>if text.size≤1000000∧n≤1000000 then (za8 H 155 3 n a).bind fun cs=>(sq3 cs).map fun ss=>(.string ⟨(zfm text.data.toList ss).toArray⟩,H) else none
 |_,_=>none
theorem zjr:zbe Go.Proofs.Tryz.prog 77 zga:=by
 refine ⟨by kernel_rfl,?_⟩
 intro B w0 args H v H' h ρ w cargs hrel hv
 unfold zga at h
 split at h
 ·rename_i text a n c
  split at h
  ·rename_i hc
   simp only [Option.bind_eq_some_iff,Option.map_eq_some_iff,Prod.mk.injEq] at h
   obtain ⟨cs,hcs,ss,hss,rfl,rfl⟩:=h
   obtain rfl:=sq3_ok cs hss
   obtain ⟨y,hy,h1⟩:=hv.get (i:=0) rfl
   obtain ⟨z,hz,h2⟩:=hv.get (i:=1) rfl
   obtain ⟨hl,-⟩:=hv
   obtain ⟨y',z',rfl⟩:∃y' z',cargs= [y',z']:=by
    match cargs,hl with
    | [a,b],_=>exact ⟨a,b,rfl⟩
   simp at hy hz
   subst hy;subst hz
   cases h1
   obtain ⟨hl1,a',c',rfl,l',hvl,hl2,ho,hcell⟩:=zcq hrel h2 hcs
   have hnl:ss.length=n:=by rw [sq3c_len] at hl1;omega
   have hgnd:∀(i:Nat) v,(sq3c ss)[i]? =some v→∃k,v= .int .i64 k:=by
    intro i v hv
    have:=List.mem_of_getElem? hv
    simp only [sq3c,List.mem_flatMap,List.mem_cons,List.not_mem_nil,or_false] at this
    obtain ⟨s,_,rfl|rfl|rfl⟩:=this<;>exact ⟨_,rfl⟩
   have hl':∀(j:Nat) v,(sq3c ss)[j]? =some v→l'[j]? =some v:=by
    intro j v hj
    obtain ⟨y,hy,hvy⟩:=hvl.get hj
    obtain ⟨k,rfl⟩:=hgnd j v hj
    cases hvy
    exact hy
   have hw:=zkf text hc.1 ss (by omega) a' c' w (by
    rcases hcell with ⟨_,h0⟩|⟨b',rfl,hcell⟩
    ·exact .inl (List.eq_nil_of_length_eq_zero (by omega))
    ·by_cases h0:ss= []
     ·exact .inl h0
     ·have hpos:0< (sq3c ss).length:=by
       rw [sq3c_len]
       have:0< ss.length:=by cases ss with|nil=>exact absurd rfl h0|cons=>simp
       omega
      have c0:=hcell 0 _ (hl' 0 _ (List.getElem?_eq_getElem hpos))
      obtain ⟨hsp,arr,tw,fr,hh,_⟩:=zf7 c0
      obtain ⟨bb,oo,sp⟩:=b'
      cases sp with
      |some s=>cases hsp
      |none=>
       refine .inr ⟨bb,oo,rfl,(Array.getElem?_eq_some_iff.1 hh).1,fun j v hj=>?_⟩
       have:=hcell j v (hl' j v hj)
       rwa [Addr.add_lit] at this)
   rw [hnl] at hw
   refine hw.mono fun e w' ⟨he,hb⟩=>⟨ρ,_,he,List.prefix_refl _,.string _,hrel.world ⟨hb.os,hb.tape,hb.output,hb.size,fun k hk=>hb.block k (hrel.base k hk)⟩ hb.block⟩
  ·cases h
 ·cases h
def R0:FuncId→Option (List Value→Heap→Option (Value×Heap)):=fun f=>if f=84 then some zeS else if f=77 then some zga else none
theorem zhp:∀f p,R0 f=some p→zbe Go.Proofs.Tryz.prog f p:=fun f p h=>by
 unfold R0 at h
 split at h
 ·rename_i hf
  cases h;subst hf;exact zjq
 ·split at h
  ·rename_i hf
   cases h;subst hf;exact zjr
  ·cases h
def Bk:FuncId→Bool:=fun f=>f==255
theorem zhq:∀f,Bk f=true→zdj Go.Proofs.Tryz.prog f:=fun f h=>by
 have:=eq_of_beq h
 subst this
 exact zho
end Go.Proofs.YtjgpbhodbgjggaaGreat.K
namespace Go.Proofs.YtjgpbhodbgjggaaGreat.K
open Go Go.Proofs
def nwV (i:Nat):List Value:=List.replicate i (.int .i64 (-1))++List.replicate (1024 - i) (.int .i64 0)
theorem zh8 {i:Nat} (h:i≤1024):(nwV i).length=1024:=by simp [nwV];omega
theorem zh9 {i:Nat} (h:i< 1024):(nwV i).set i (.int .i64 (-1))=nwV (i+1):=by
 unfold nwV
 have e:1024 - i=(1024 - (i+1))+1:=by omega
 rw [e,List.replicate_succ,List.set_append_right _ _ (by simp),List.length_replicate,Nat.sub_self]
 simp [List.replicate_succ']
theorem zeros1 (v:Value) (n:Nat):zeros [v] n=List.replicate n v:=by simp [zeros]
def nwB (t:Bytes) (x y z:Value):Blk:= .cells [.string (ofL t),x,y,z] 199 true
structure NxI (H0:Heap) (F:Nat) (t:Bytes) (d:Nat) (e:Fe) (H:Heap) (i:Nat):Prop where
 hi:i≤1024
 hd:d=1024 - i
 nx:H.next=F+2
 kp:Kp F H0 H
 f:H.get F=nwB t (.slice (some ⟨F+1,0,none⟩) 1024 1024) (.slice none 0 0) (.slice none 0 0)
 h:H.get (F+1)= .cells (nwV i) 3 true
 e3:e 3= .pointer (some ⟨F,0,none⟩)
 e20:e 20= .int .i64 1024
 e21:e 21= .int .i64 i
def nwH (H:Heap) (t:Bytes):Heap:=(((H.push (nwB t (.slice (some ⟨H.next+1,0,none⟩) 1024 1024) (.slice (some ⟨H.next+2,0,none⟩) t.length t.length) (.slice (some ⟨H.next+3,0,none⟩) t.length t.length))).push (.cells (List.replicate 1024 (.int .i64 (-1))) 3 true)).push (.cells (List.replicate t.length (.int .i64 0)) 3 true)).push (.cells (List.replicate t.length (.bool false)) 4 true)
theorem zkg {S:Sys} (hR:S.R 104=none) (hF:S.F 104=some k104) {H:Heap} {t:Bytes} (hl:t.length≤2000):Wf S 104 [.string (ofL t)] H fun v H'=>v= .pointer (some ⟨H.next,0,none⟩)∧H'=nwH H t:=by
 refine w104 hR hF _ ?_
 obtain ⟨F,hFn⟩:∃F,F=H.next:=⟨_,rfl⟩
 have hmn:min (t.length:Int) 2000=t.length:=by omega
 have hup:∀{K:Kv} {H:Heap},run S (.slS (.c (.string (ofL t))) none (some (.c (.int .i64 t.length)))) [] H K=K (.string (ofL t)) H:=fun {K} {H}=>by
  rw [zjb,if_pos ⟨by omega,by omega⟩];simp
 have hz1:zeros [.int .i64 0] 1024=nwV 0:=by rw [zeros1];rfl
 have hz2:zeros [.int .i64 0] t.length=List.replicate t.length (.int .i64 0):=zeros1 _ _
 have hz3:zeros [.bool false] t.length=List.replicate t.length (.bool false):=zeros1 _ _
 obtain ⟨H1,hH1⟩:∃H1,H1=H.push (nwB t (.slice none 0 0) (.slice none 0 0) (.slice none 0 0)):=⟨_,rfl⟩
 have n1:H1.next=F+1:=by rw [hH1,hFn];simp
 have g1:H1.get F=nwB t (.slice none 0 0) (.slice none 0 0) (.slice none 0 0):=by rw [hH1,hFn];exact zaO
 obtain ⟨H2,hH2⟩:∃H2,H2=H1.push (.cells (nwV 0) 3 true):=⟨_,rfl⟩
 have n2:H2.next=F+2:=by rw [hH2];simp [n1]
 have g2:H2.get F=nwB t (.slice none 0 0) (.slice none 0 0) (.slice none 0 0):=by rw [hH2,zam (by omega)];exact g1
 have g2h:H2.get (F+1)= .cells (nwV 0) 3 true:=by rw [hH2,←n1];exact zaO
 obtain ⟨H3,hH3⟩:∃H3,H3=H2.put F (nwB t (.slice (some ⟨F+1,0,none⟩) 1024 1024) (.slice none 0 0) (.slice none 0 0)):=⟨_,rfl⟩
 have n3:H3.next=F+2:=by rw [hH3,next_put];exact n2
 have g3:H3.get F=nwB t (.slice (some ⟨F+1,0,none⟩) 1024 1024) (.slice none 0 0) (.slice none 0 0):=by rw [hH3];exact zbL (by omega)
 have g3h:H3.get (F+1)= .cells (nwV 0) 3 true:=by rw [hH3,zau (by omega)];exact g2h
 have s3:kSt H2 (.pointer (some ⟨F,1,none⟩)) (.slice (some ⟨F+1,0,none⟩) 1024 1024)=some H3:=by
  rw [hH3];unfold nwB at*;simp [kSt,g2,zaq]
 have k3:Kp F H H3:=⟨by omega,fun k hk=>by rw [hH3,zau (by omega),hH2,zam (by omega),hH1,zam (by omega)]⟩
 have e1:Blk.cells [.string (ofL t),.slice none 0 0,.slice none 0 0,.slice none 0 0] 199 true=nwB t (.slice none 0 0) (.slice none 0 0) (.slice none 0 0):=rfl
 have c1:(t.length:Int)≤9223372036854775807:=by omega
 have c2:8*(t.length:Int)≤281474976710656:=by omega
 have c3:(t.length:Int)≤281474976710656:=by omega
 have g3':=g3
 unfold nwB at g3'
 simp [s104,zaJ,hmn,hup,zaR,za7,zbn,cellsL,wr,e1,←hFn,←hH1,zdv,hz1,←hH2,n1,zak,s3,g3']
 refine l104_0 S (fun d e H'=>∃i,NxI H F t d e H' i) 1024 ⟨0,by omega,rfl,n3,k3,g3,g3h,by simp,by simp,by simp⟩ ?_
 rintro d e H' ⟨i,hi,rfl,nx,kp,f,h,e3,e20,e21⟩
 have f':=f
 unfold nwB at f'
 by_cases hlt:i< 1024
 ·have hlt':(i:Int)< 1024:=by omega
  have hln:=zh8 hi
  obtain ⟨H4,hH4⟩:∃H4,H4=H'.put (F+1) (.cells (nwV (i+1)) 3 true):=⟨_,rfl⟩
  have s4:kSt H' (.pointer (some ⟨F+1,i,none⟩)) (.int .i64 (-1))=some H4:=by
   rw [hH4,←zh9 hlt]
   simp [kSt,h,zaq,hln,hlt]
  have w1:IntKind.i64.wrap ((i:Int)+1)=((i+1:Nat):Int):=by rw [wi (by omega) (by omega)];omega
  simp [s104_0,e3,e20,e21,hlt,hlt',zak,f',s4,w1]
  exact ⟨1024 - (i+1),by omega,i+1,by omega,rfl,by rw [hH4,next_put];exact nx,⟨by rw [hH4,next_put];exact kp.1,fun k hk=>by rw [hH4,zau (by omega)];exact kp.2 k hk⟩,by rw [hH4,zau (by omega)];exact f,by rw [hH4];exact zbL (by omega),by simp [e3],by simp [e20],by simp⟩
 ·obtain rfl:i=1024:=by omega
  obtain ⟨H5,hH5⟩:∃H5,H5=H'.push (.cells (List.replicate t.length (.int .i64 0)) 3 true):=⟨_,rfl⟩
  have n5:H5.next=F+3:=by rw [hH5];simp [nx]
  have f5:H5.get F=nwB t (.slice (some ⟨F+1,0,none⟩) 1024 1024) (.slice none 0 0) (.slice none 0 0):=by rw [hH5,zam (by omega)];exact f
  obtain ⟨H6,hH6⟩:∃H6,H6=H5.put F (nwB t (.slice (some ⟨F+1,0,none⟩) 1024 1024) (.slice (some ⟨F+2,0,none⟩) t.length t.length) (.slice none 0 0)):=⟨_,rfl⟩
  have n6:H6.next=F+3:=by rw [hH6,next_put];exact n5
  have s6:kSt H5 (.pointer (some ⟨F,2,none⟩)) (.slice (some ⟨F+2,0,none⟩) t.length t.length)=some H6:=by
   rw [hH6];unfold nwB at*;simp [kSt,f5,zaq]
  have f6:H6.get F=nwB t (.slice (some ⟨F+1,0,none⟩) 1024 1024) (.slice (some ⟨F+2,0,none⟩) t.length t.length) (.slice none 0 0):=by rw [hH6];exact zbL (by omega)
  obtain ⟨H7,hH7⟩:∃H7,H7=H6.push (.cells (List.replicate t.length (.bool false)) 4 true):=⟨_,rfl⟩
  have n7:H7.next=F+4:=by rw [hH7];simp [n6]
  have f7:H7.get F=nwB t (.slice (some ⟨F+1,0,none⟩) 1024 1024) (.slice (some ⟨F+2,0,none⟩) t.length t.length) (.slice none 0 0):=by rw [hH7,zam (by omega)];exact f6
  obtain ⟨H8,hH8⟩:∃H8,H8=H7.put F (nwB t (.slice (some ⟨F+1,0,none⟩) 1024 1024) (.slice (some ⟨F+2,0,none⟩) t.length t.length) (.slice (some ⟨F+3,0,none⟩) t.length t.length)):=⟨_,rfl⟩
  have s8:kSt H7 (.pointer (some ⟨F,3,none⟩)) (.slice (some ⟨F+3,0,none⟩) t.length t.length)=some H8:=by
   rw [hH8];unfold nwB at*;simp [kSt,f7,zaq]
  have ckS:∀(l:Bytes) (H:Heap) (P:Prop),ck (some (Value.string (ofL l),H)) (Value.string (ofL l)) P=P:=fun l H P=>by
   show (veq _ _=true∧P)=P
   have:veq (Value.string (ofL l)) (Value.string (ofL l))=true:=by simp [veq,veq1]
   rw [this];simp
  have f5':=f5
  unfold nwB at f5'
  have f7':=f7
  unfold nwB at f7'
  have f6':=f6
  unfold nwB at f6'
  simp [s104_0,e3,e20,e21,zak,f',zaJ,zdv,c1,c2,c3,hz2,hz3,nx,←hH5,kop,f5',ckS]
  simp [s6,n6,←hH7,kop,f7',f6',ckS,s8]
  have hfull:nwV 1024=List.replicate 1024 (.int .i64 (-1)):=by unfold nwV;rw [Nat.sub_self];simp
  rw [hfull] at h
  have hN:(nwH H t).next=F+4:=by unfold nwH;simp [hFn]
  refine zhm (by rw [hN,hH8,next_put];exact n7) fun j hj=>?_
  have hj:j< F+4:=by rw [hH8,next_put,n7] at hj;exact hj
  unfold nwH
  rw [←hFn]
  have hcase:j< F∨j=F∨j=F+1∨j=F+2∨j=F+3:=by omega
  rcases hcase with hc|rfl|rfl|rfl|rfl
  ·rw [hH8,zau (by omega),hH7,zam (by omega),hH6,zau (by omega),hH5,zam (by omega),kp.2 j hc,zam (by simp;omega),zam (by simp;omega),zam (by simp;omega),zam (by omega)]
  ·rw [hH8,zbL (by omega)]
   simp only [hFn]
   rw [zam (by simp<;>omega),zam (by simp<;>omega),zam (by simp),zaO]
  ·rw [hH8,zau (by omega),hH7,zam (by omega),hH6,zau (by omega),hH5,zam (by omega),h]
   simp [hFn]
  ·rw [hH8,zau (by omega),hH7,zam (by omega),hH6,zau (by omega),hH5,←nx,zaO]
   simp [hFn,nx]
  ·rw [hH8,zau (by omega),hH7,←n6,zaO]
   simp [hFn,n6]
def zgb:List Value→Heap→Option (Value×Heap)
 | [.string s],H=>if s.data.toList.length≤2000 then some (.pointer (some ⟨H.next,0,none⟩),nwH H s.data.toList) else none
 |_,_=>none
def S0:Sys:=⟨F,M,R0,Bk⟩
theorem zkh:zcP Go.Proofs.Tryz.prog S0:=⟨zjp,by kernel_rfl,zjo,zhp,zhq⟩
theorem zjs:zbe Go.Proofs.Tryz.prog 104 zgb:=by
 refine zfk zkh (by kernel_rfl) fun args H v H' h=>?_
 unfold zgb at h
 split at h
 ·rename_i s
  split at h
  ·rename_i hc
   cases h
   have hw:=zkg (S:=S0) rfl rfl (H:=H) hc
   rw [zdo] at hw
   exact hw.mono fun v H' ⟨h1,h2⟩=>⟨h1,h2⟩
  ·cases h
 ·cases h
def R1:FuncId→Option (List Value→Heap→Option (Value×Heap)):=fun f=>if f=104 then some zgb else R0 f
theorem zki:∀f p,R1 f=some p→zbe Go.Proofs.Tryz.prog f p:=fun f p h=>by
 unfold R1 at h
 split at h
 ·rename_i hf
  cases h;subst hf;exact zjs
 ·exact zhp f p h
def S1:Sys:=⟨F,M,R1,Bk⟩
def zjt (args:List Value) (T:HTr):Option (Value×HTr):=(zeS args []).map fun p=>(p.1,T)
def zju:List Value→HTr→Option (Value×HTr)
 | [.string text,.slice a n c],T=>if text.size≤1000000∧n≤1000000 then (zfc T 155 3 n a).bind fun cs=>(sq3 cs).map fun ss=>(.string ⟨(zfm text.data.toList ss).toArray⟩,T) else none
 |_,_=>none
def zjv:List Value→HTr→Option (Value×HTr)
 | [.string s],T=>if s.data.toList.length≤2000 then (T.push (.cells [.string s,.slice (some ⟨T.n+1,0,none⟩) 1024 1024,.slice (some ⟨T.n+2,0,none⟩) s.data.toList.length s.data.toList.length,.slice (some ⟨T.n+3,0,none⟩) s.data.toList.length s.data.toList.length] 199 true)).bind fun T1=>(T1.push (.cells (List.replicate 1024 (.int .i64 (-1))) 3 true)).bind fun T2=>(T2.push (.cells (List.replicate s.data.toList.length (.int .i64 0)) 3 true)).bind fun T3=>(T3.push (.cells (List.replicate s.data.toList.length (.bool false)) 4 true)).map fun T4=>(.pointer (some ⟨T.n,0,none⟩),T4) else none
 |_,_=>none
def RT1:FuncId→Option (List Value→HTr→Option (Value×HTr)):=fun f=>if f=84 then some zjt else if f=77 then some zju else if f=104 then some zjv else none
theorem zia (args:List Value) (T:HTr) (H:Heap) (r:Value×HTr) (h:HRl T H) (hk:zjt args T=some r):∃H',zeS args H=some (r.1,H')∧HRl r.2 H':=by
 unfold zjt at hk
 cases hq:zeS args [] with
 |none=>rw [hq] at hk;cases hk
 |some p=>
  rw [hq] at hk;cases hk
  refine ⟨H,?_,h⟩
  unfold zeS at hq⊢
  split at hq
  ·split at hq
   ·rename_i hc;rw [if_pos hc];cases hq;rfl
   ·cases hq
  ·cases hq
theorem zib (args:List Value) (T:HTr) (H:Heap) (r:Value×HTr) (h:HRl T H) (hk:zju args T=some r):∃H',zga args H=some (r.1,H')∧HRl r.2 H':=by
 unfold zju at hk
 split at hk
 ·rename_i text a n c
  split at hk
  ·rename_i hc
   rw [zcC h] at hk
   unfold zga
   simp only
   rw [if_pos hc]
   cases hr:za8 H 155 3 n a with
   |none=>rw [hr] at hk;cases hk
   |some cs=>
    rw [hr] at hk
    simp only [Option.bind_some] at hk⊢
    cases hs:sq3 cs with
    |none=>rw [hs] at hk;cases hk
    |some ss=>rw [hs] at hk;cases hk;exact ⟨H,rfl,h⟩
  ·cases hk
 ·cases hk
theorem zic (args:List Value) (T:HTr) (H:Heap) (r:Value×HTr) (h:HRl T H) (hk:zjv args T=some r):∃H',zgb args H=some (r.1,H')∧HRl r.2 H':=by
 unfold zjv at hk
 split at hk
 ·rename_i s
  split at hk
  ·rename_i hc
   unfold zgb
   simp only
   rw [if_pos hc]
   have hn:=h.n
   rw [hn] at hk
   cases h1:T.push (.cells [.string s,.slice (some ⟨H.next+1,0,none⟩) 1024 1024,.slice (some ⟨H.next+2,0,none⟩) s.data.toList.length s.data.toList.length,.slice (some ⟨H.next+3,0,none⟩) s.data.toList.length s.data.toList.length] 199 true) with
   |none=>rw [h1] at hk;cases hk
   |some T1=>
    rw [h1] at hk
    simp only [Option.bind_some] at hk
    cases h2:T1.push (.cells (List.replicate 1024 (.int .i64 (-1))) 3 true) with
    |none=>rw [h2] at hk;cases hk
    |some T2=>
     rw [h2] at hk
     simp only [Option.bind_some] at hk
     cases h3:T2.push (.cells (List.replicate s.data.toList.length (.int .i64 0)) 3 true) with
     |none=>rw [h3] at hk;cases hk
     |some T3=>
      rw [h3] at hk
      simp only [Option.bind_some] at hk
      cases h4:T3.push (.cells (List.replicate s.data.toList.length (.bool false)) 4 true) with
      |none=>rw [h4] at hk;cases hk
      |some T4=>
       rw [h4] at hk;cases hk
       have q:=HTr.push_ok (HTr.push_ok (HTr.push_ok (HTr.push_ok h h1) h2) h3) h4
       refine ⟨_,rfl,?_⟩
       unfold nwH nwB
       rw [zdo]
       exact q
  ·cases hk
 ·cases hk
theorem zhr:zh3 S1 RT1:=by
 refine ⟨fun f q h=>?_,fun f h=>?_⟩
 ·unfold RT1 at h
  split at h
  ·rename_i hf
   cases h;subst hf
   exact ⟨zeS,rfl,zia⟩
  ·split at h
   ·rename_i hf
    cases h;subst hf
    exact ⟨zga,rfl,zib⟩
   ·split at h
    ·rename_i hf
     cases h;subst hf
     exact ⟨zgb,rfl,zic⟩
    ·cases h
 ·unfold RT1 at h
  show R1 f=none
  unfold R1 R0
  split at h
  ·cases h
  ·rename_i h1
   split at h
   ·cases h
   ·rename_i h2
    split at h
    ·cases h
    ·rename_i h3
     rw [if_neg h3,if_neg h1,if_neg h2]
end Go.Proofs.YtjgpbhodbgjggaaGreat.K
namespace Go.Proofs.YtjgpbhodbgjggaaGreat.K
open Go Go.Proofs Go.Shelf Go.RowKit
def za1:Go.Shelf.Ren:=⟨fun|156=>69|165=>98|166=>99|169=>100|240=>142|241=>143|276=>177|277=>178|n=>n,fun|31=>42|9=>9|3=>3|4=>4|0=>0|20=>20|72=>142|76=>146|70=>140|37=>95|75=>145|127=>196|164=>240|5=>5|80=>82|n=>n,fun|n=>n⟩
theorem zeT:Go.Proofs.Lays.n156 Go.Proofs.Tryz.prog za1:={
 mixed:=by kernel_rfl
 f156:=Go.Proofs.Tryz.func69.trans (congrArg some (by kernel_rfl))
 f165:=Go.Proofs.Tryz.func98.trans (congrArg some (by kernel_rfl))
 f166:=Go.Proofs.Tryz.func99.trans (congrArg some (by kernel_rfl))
 f169:=Go.Proofs.Tryz.func100.trans (congrArg some (by kernel_rfl))
 f240:=Go.Proofs.Tryz.func142.trans (congrArg some (by kernel_rfl))
 f241:=Go.Proofs.Tryz.func143.trans (congrArg some (by kernel_rfl))
 f276:=Go.Proofs.Tryz.func177.trans (congrArg some (by kernel_rfl))
 f277:=Go.Proofs.Tryz.func178.trans (congrArg some (by kernel_rfl))
 t0:=Go.Proofs.Tryz.underlying0
 a0:=Go.Proofs.Tryz.isAgg0
 z0:=Go.Proofs.Tryz.sizeOf0
 v0:=Go.Proofs.Tryz.zeroValue0
 t3:=Go.Proofs.Tryz.underlying3
 a3:=Go.Proofs.Tryz.isAgg3
 z3:=Go.Proofs.Tryz.sizeOf3
 v3:=Go.Proofs.Tryz.zeroValue3
 t4:=Go.Proofs.Tryz.underlying4
 a4:=Go.Proofs.Tryz.isAgg4
 z4:=Go.Proofs.Tryz.sizeOf4
 v4:=Go.Proofs.Tryz.zeroValue4
 t9:=Go.Proofs.Tryz.underlying9
 a9:=Go.Proofs.Tryz.isAgg9
 z9:=Go.Proofs.Tryz.sizeOf9
 v9:=Go.Proofs.Tryz.zeroValue9
 t20:=Go.Proofs.Tryz.underlying20
 a20:=Go.Proofs.Tryz.isAgg20
 z20:=Go.Proofs.Tryz.sizeOf20
 v20:=Go.Proofs.Tryz.zeroValue20
 t31:=Go.Proofs.Tryz.underlying42
 a31:=Go.Proofs.Tryz.isAgg42
 z31:=Go.Proofs.Tryz.sizeOf42
 v31:=Go.Proofs.Tryz.zeroValue42
 t37:=Go.Proofs.Tryz.underlying95
 a37:=Go.Proofs.Tryz.isAgg95
 z37:=Go.Proofs.Tryz.sizeOf95
 v37:=Go.Proofs.Tryz.zeroValue95
 t70:=Go.Proofs.Tryz.underlying140
 a70:=Go.Proofs.Tryz.isAgg140
 z70:=Go.Proofs.Tryz.sizeOf140
 v70:=Go.Proofs.Tryz.zeroValue140
 t72:=Go.Proofs.Tryz.underlying142
 a72:=Go.Proofs.Tryz.isAgg142
 z72:=Go.Proofs.Tryz.sizeOf142
 v72:=Go.Proofs.Tryz.zeroValue142
 t75:=Go.Proofs.Tryz.underlying145
 a75:=Go.Proofs.Tryz.isAgg145
 z75:=Go.Proofs.Tryz.sizeOf145
 v75:=Go.Proofs.Tryz.zeroValue145
 t76:=Go.Proofs.Tryz.underlying146
 a76:=Go.Proofs.Tryz.isAgg146
 z76:=Go.Proofs.Tryz.sizeOf146
 v76:=Go.Proofs.Tryz.zeroValue146
 t127:=Go.Proofs.Tryz.underlying196
 a127:=Go.Proofs.Tryz.isAgg196
 z127:=Go.Proofs.Tryz.sizeOf196
 v127:=Go.Proofs.Tryz.zeroValue196
 t164:=Go.Proofs.Tryz.underlying240
 a164:=Go.Proofs.Tryz.isAgg240
 z164:=Go.Proofs.Tryz.sizeOf240
 v164:=Go.Proofs.Tryz.zeroValue240}
theorem zdK:Builder.Extra Go.Proofs.Tryz.prog za1:={
 sizeBuilder:=by kernel_rfl
 liesBuilder:=by kernel_rfl
 t5:=zaB.t5
 a5:=zaB.a5
 z5:=zaB.z5
 v5:=zaB.v5
 infoByte:=by kernel_rfl
 cellsByte:=by kernel_rfl
 sizeByte:=by kernel_rfl
 neB5:=by decide}
theorem zkj:za1.f 156=69:=by kernel_rfl
def strsOf:List Value→Option (List ByteArray)
 | []=>some []
 | .string s::l=>(strsOf l).map (s::·)
 |_::_=>none
def zdL:List Value→Heap→Option (Value×Heap)
 | [.slice a n c,.string sep],H=>(za8 H 9 1 n a).bind fun l=>(strsOf l).bind fun xs=>
  if n≤1000000∧(Lib.join (xs.map (·.data.toList)) sep.data.toList).length≤1000000000 then some (.string ⟨(Lib.join (xs.map (·.data.toList)) sep.data.toList).toArray⟩,H) else none
 |_,_=>none
theorem zdu:∀{l:List Value} {xs:List ByteArray},strsOf l=some xs→xs.length=l.length∧∀(i:Nat) x,xs[i]? =some x→l[i]? =some (.string x)
 | [],xs,h=>by
   simp only [strsOf,Option.some.injEq] at h
   subst h;exact ⟨rfl,fun i x h=>by simp at h⟩
 |v::l,xs,h=>by
  cases v with
  |string s=>
   simp only [strsOf,Option.map_eq_some_iff] at h
   obtain ⟨ys,hy,rfl⟩:=h
   obtain ⟨h1,h2⟩:=zdu hy
   refine ⟨by simp [h1],fun i x hx=>?_⟩
   cases i with
   |zero=>simp at hx;subst hx;rfl
   |succ i=>simp at hx;simpa using h2 i x hx
  |_=>simp [strsOf] at h
theorem zid:zbe Go.Proofs.Tryz.prog 69 zdL:=by
 refine ⟨by kernel_rfl,?_⟩
 intro B w0 args H v H' h ρ w cargs hrel hv
 unfold zdL at h
 split at h
 case h_2=>cases h
 rename_i a n c sep
 simp only [Option.bind_eq_some_iff] at h
 obtain ⟨l,hrow,xs,hxs,h⟩:=h
 split at h
 case isFalse=>cases h
 rename_i hlim
 simp only [Option.some.injEq,Prod.mk.injEq] at h
 obtain ⟨rfl,rfl⟩:=h
 obtain ⟨y,hy,h1⟩:=hv.get (i:=0) rfl
 obtain ⟨z,hz,h2⟩:=hv.get (i:=1) rfl
 obtain ⟨hl,-⟩:=hv
 obtain ⟨y',z',rfl⟩:∃y' z',cargs= [y',z']:=by
  match cargs,hl with
  | [a,b],_=>exact ⟨a,b,rfl⟩
 simp at hy hz
 subst hy;subst hz
 cases h2
 obtain ⟨hxl,hxg⟩:=zdu hxs
 have fin:∀a' c',Calls Go.Proofs.Tryz.prog (za1.f 156) #[.slice a' xs.length c',.string sep] w (fun e w'=>e= .returned (.string ⟨(Lib.join (xs.map (·.data.toList)) sep.data.toList).toArray⟩)∧Below w.heap.size w w')→
   Calls Go.Proofs.Tryz.prog 69 #[.slice a' xs.length c',.string sep] w fun e w'=>∃ρ' cv,e= .returned cv∧ρ<+:ρ'∧VRel Go.Proofs.Tryz.prog ρ' (.string ⟨(Lib.join (xs.map (·.data.toList)) sep.data.toList).toArray⟩) cv∧HRel Go.Proofs.Tryz.prog B w0 ρ' H w':=fun a' c' hc=>by
  rw [zkj] at hc
  exact hc.mono fun e w' ⟨he,hb⟩=>⟨ρ,_,he,List.prefix_refl _,.string _,hrel.world ⟨hb.os,hb.tape,hb.output,hb.size,fun k hk=>hb.block k (hrel.base k hk)⟩ hb.block⟩
 have none0:xs= []→∀a' c',Calls Go.Proofs.Tryz.prog (za1.f 156) #[.slice a' xs.length c',.string sep] w (fun e w'=>e= .returned (.string ⟨(Lib.join (xs.map (·.data.toList)) sep.data.toList).toArray⟩)∧Below w.heap.size w w'):=fun hx a' c'=>by
  subst hx
  exact (Any.strings_Join_none zeT zdK a' c' sep w).mono fun e w' ⟨he,hw⟩=>⟨he,hw ▸ Below.refl _ _⟩
 cases h1 with
 |snil=>
  simp only [za8,if_true,Option.some.injEq] at hrow
  subst hrow
  simp only [strsOf,Option.some.injEq] at hxs
  subst hxs
  exact fin _ _ (none0 rfl _ _)
 |sl0=>
  have:xs= []:=by
   simp only [za8] at hrow
   split at hrow
   ·split at hrow
    ·simp only [rd,Nat.zero_mul,Nat.add_zero,List.take_zero] at hrow
     split at hrow
     ·cases hrow;simp only [strsOf,Option.some.injEq] at hxs;exact hxs.symm
     ·cases hrow
    ·cases hrow
   ·cases hrow
  subst this
  exact fin _ _ (none0 rfl _ _)
 |sl hL hn hc hs=>
  rename_i b off c' L
  by_cases hx0:xs= []
  ·have hn0:n=xs.length:=by
    simp only [za8] at hrow
    split at hrow
    ·split at hrow
     ·unfold rd at hrow
      split at hrow
      ·cases hrow;rw [hxl,List.length_take,List.length_drop];omega
      ·cases hrow
     ·cases hrow
    ·cases hrow
   rw [hn0]
   exact fin _ _ (none0 hx0 _ _)
  ·simp only [za8] at hrow
   split at hrow
   case h_2=>cases hrow
   rename_i cs t' rw' hg
   split at hrow
   case isFalse=>cases hrow
   have hB:=hrel.blk b L hL
   rw [hg] at hB
   obtain ⟨_,arr,tw,fr,g1,g2,g3,g4,_⟩:=hB
   unfold rd at hrow
   split at hrow
   case isFalse=>cases hrow
   rename_i hlen
   simp only [Nat.mul_one] at hlen hrow
   cases hrow
   have hn0:xs.length=n:=by rw [hxl,List.length_take,List.length_drop];omega
   have hlt:=(Array.getElem?_eq_some_iff.1 g1).1
   have hr:=Any.strings_Join zeT zdK L.block (L.off+off) c' xs sep w (fun j x hx=>by
    have hj:=hxg j x hx
    rw [List.getElem?_take] at hj
    split at hj
    ·rw [List.getElem?_drop] at hj
     obtain ⟨_,y,hy,hvy⟩:=g4 _ _ hj
     cases hvy
     simp only [World.cell?,g1]
     rw [←hy];simp [Nat.add_assoc]
    ·cases hj) hlt (by omega) (by omega) (by omega)
   have:=fin _ _ hr
   rw [hn0] at this
   exact this
def zhs:List Value→HTr→Option (Value×HTr)
 | [.slice a n c,.string sep],T=>(zfc T 9 1 n a).bind fun l=>(strsOf l).bind fun xs=>
  if n≤1000000∧(Lib.join (xs.map (·.data.toList)) sep.data.toList).length≤1000000000 then some (.string ⟨(Lib.join (xs.map (·.data.toList)) sep.data.toList).toArray⟩,T) else none
 |_,_=>none
theorem zht (args:List Value) (T:HTr) (H:Heap) (r:Value×HTr) (h:HRl T H) (hk:zhs args T=some r):∃H',zdL args H=some (r.1,H')∧HRl r.2 H':=by
 unfold zhs at hk
 split at hk
 ·rename_i a n c sep
  rw [zcC h] at hk
  unfold zdL
  simp only
  cases hr:za8 H 9 1 n a with
  |none=>rw [hr] at hk;cases hk
  |some l=>
   rw [hr] at hk
   simp only [Option.bind_some] at hk⊢
   cases hs:strsOf l with
   |none=>rw [hs] at hk;cases hk
   |some xs=>
    rw [hs] at hk
    simp only [Option.bind_some] at hk⊢
    split at hk
    ·rename_i hc
     rw [if_pos hc]
     cases hk
     exact ⟨H,rfl,h⟩
    ·cases hk
 ·cases hk
def R2:FuncId→Option (List Value→Heap→Option (Value×Heap)):=fun f=>if f=69 then some zdL else R1 f
theorem zkk:∀f p,R2 f=some p→zbe Go.Proofs.Tryz.prog f p:=fun f p h=>by
 unfold R2 at h
 split at h
 ·rename_i hf
  cases h;subst hf;exact zid
 ·exact zki f p h
def S2:Sys:=⟨F,M,R2,Bk⟩
theorem zkl:zcP Go.Proofs.Tryz.prog S2:=⟨zjp,by kernel_rfl,zjo,zkk,zhq⟩
def RT2:FuncId→Option (List Value→HTr→Option (Value×HTr)):=fun f=>if f=69 then some zhs else RT1 f
theorem zjw:zh3 S2 RT2:=by
 refine ⟨fun f q h=>?_,fun f h=>?_⟩
 ·unfold RT2 at h
  split at h
  ·rename_i hf
   cases h;subst hf
   exact ⟨zdL,rfl,zht⟩
  ·rename_i hf
   obtain ⟨p,h1,h2⟩:=zhr.1 f q h
   refine ⟨p,?_,h2⟩
   show R2 f=some p
   unfold R2
   rw [if_neg hf]
   exact h1
 ·unfold RT2 at h
  split at h
  ·cases h
  ·rename_i hf
   show R2 f=none
   unfold R2
   rw [if_neg hf]
   exact zhr.2 f h
end Go.Proofs.YtjgpbhodbgjggaaGreat.K
set_option maxHeartbeats 0
namespace Go.Proofs.YtjgpbhodbgjggaaGreat.K
open Go Go.Proofs
theorem run40:(evQ S2 RT2 300 37 [] T0).map (fun p=>p.1)=some (.bool true):=by kernel_rfl
theorem aw40_ok:zbe Go.Proofs.Tryz.prog 37 (prim0 (.bool true)):=prim0_ok zkl rfl (by kernel_rfl) (zh6 zjw run40)
def R:FuncId→Option (List Value→Heap→Option (Value×Heap)):=fun f=>if f=37 then some (prim0 (.bool true)) else R0 f
theorem zli:∀f p,R f=some p→zbe Go.Proofs.Tryz.prog f p:=fun f p h=>by
 unfold R at h
 split at h
 ·rename_i hf
  cases h;subst hf;exact aw40_ok
 ·exact zhp f p h
theorem aw40_prim:R 37=some (prim0 (.bool true)):=rfl
set_option maxHeartbeats 2000000
def S:Sys:=⟨F,M,R,Bk⟩
theorem S_ok:zcP Go.Proofs.Tryz.prog S:=⟨zjp,by kernel_rfl,zjo,zli,zhq⟩
def Iv (H:Heap) (a:Option Addr) (l:List Int):Prop:=0< l.length→∃b o cs rw,a=some ⟨b,o,none⟩∧H.get b= .cells cs 3 rw∧∀(i:Nat) x,l[i]? =some x→cs[o+i]? =some (.int .i64 x)
theorem Iv.kp {H H':Heap} {a:Option Addr} {l:List Int} (h:Iv H a l) (hk:Kp H.next H H'):Iv H' a l:=fun hp=>by
 obtain ⟨b,o,cs,rw,h1,h2,h3⟩:=h hp
 exact ⟨b,o,cs,rw,h1,(hk.2 b (zbl h2)).trans h2,h3⟩
section
variable {H:Heap} {a:Option Addr} {c:Nat} {l:List Int}
end
set_option maxHeartbeats 4000000
theorem Acc.appN2 {t z N M n m bytes:Nat} {H:Heap} {v:Value} {cs new:List Value} (h:Acc t z N M H v n cs) (hm:0< m) (hz:new.length=m*z) (hn:(n+m)*bytes≤zal∧n+m≤zal):
  ∃v' H',zbu H t z bytes v m new=some (v',H')∧Acc t z H.next H'.next H' v' (n+m) (cs++new)∧H.next< H'.next∧∀k,k< H.next→(∀b m c,v= .slice (some b) m c→b.block≠k)→H'.get k=H.get k:=by
 have hm0:¬m=0:=by omega
 rcases h with ⟨rfl,rfl,rfl⟩|⟨b,c,h1,h2,rfl,hc,h3,h4⟩
 ·have h5:m*bytes≤zal∧m≤zal:=by simpa using hn
  refine ⟨_,_,by simp [zbu,h5.1,h5.2,hm0];exact ⟨rfl,rfl⟩,?_,by simp,fun k hk _=>zam hk⟩
  refine .inr ⟨H.next,zaG,by omega,by simp,by simp,.inl rfl,?_,by simp [hz]⟩
  simp
 ·have hb:=zbl h3
  have hrd:rd cs 0 (n*z)=some cs:=by
   unfold rd;rw [if_pos (by omega),List.drop_zero,List.take_of_length_le (by omega)]
  rcases hc with rfl|rfl
  ·refine ⟨_,_,by simp only [zbu,h3,hn,and_self,if_true,hm0,if_false,hrd,Option.map_some];exact rfl,?_,?_,?_⟩
   ·refine .inr ⟨H.next,zaG,by omega,by simp [next_put],rfl,.inl rfl,?_,by simp [h4,hz,Nat.add_mul]⟩
    have:=zaO (H:=H.put b .dead) (b:= .cells (cs++new) t true)
    rw [next_put] at this;exact this
   ·simp [next_put]
   ·intro k hk hkN
    have:=hkN _ _ _ rfl
    simp only at this
    rw [zam (by rw [next_put];omega),zau (by omega)]
  ·have hx:¬c=zaG:=by
    have:zal< zaG:=by decide
    omega
   have hx2:¬c+m≤c:=by omega
   refine ⟨_,_,by simp only [zbu,h3,hn,and_self,if_true,hx,hx2,if_false,hrd,Option.map_some];exact rfl,?_,?_,?_⟩
   ·refine .inr ⟨H.next,zaG,by omega,by simp,rfl,.inl rfl,zaO,by simp [h4,hz,Nat.add_mul]⟩
   ·simp
   ·intro k hk hkN
    rw [zam hk]
def encS (g:Bytes):Value:= .string (ofL g)
def strs (l:List Bytes):List Value:=l.map encS
theorem zhu (l m:List Bytes):strs (l++m)=strs l++strs m:=by simp [strs]
theorem zeU {l:List Bytes} {i:Nat} {x:Bytes} (h:l[i]? =some x):(strs l)[i]? =some (.string (ofL x)):=by simp [strs,h,encS]
def Sv (H:Heap) (a:Option Addr) (l:List Bytes):Prop:=0< l.length→∃b o cs rw,a=some ⟨b,o,none⟩∧H.get b= .cells cs 9 rw∧∀(i:Nat) x,l[i]? =some x→cs[o+i]? =some (.string (ofL x))
theorem Sv.kp {H H':Heap} {a:Option Addr} {l:List Bytes} (h:Sv H a l) (hk:Kp H.next H H'):Sv H' a l:=fun hp=>by
 obtain ⟨b,o,cs,rw',h1,h2,h3⟩:=h hp
 exact ⟨b,o,cs,rw',h1,by rw [hk.2 b (zbl h2)];exact h2,h3⟩
theorem Acc.sv {N M n:Nat} {H:Heap} {v:Value} {l:List Bytes} (h:Acc 9 1 N M H v n (strs l)) (hn:n=l.length):∃a c,v= .slice a l.length c∧Sv H a l:=by
 obtain ⟨a,c,rfl,hg⟩:=h.len
 refine ⟨a,c,by rw [hn],fun hp=>?_⟩
 obtain ⟨b,rfl,hb⟩:=hg (by omega)
 exact ⟨b,0,strs l,true,rfl,hb,fun i x hx=>by rw [Nat.zero_add];exact zeU hx⟩
def SIs (H:Heap) (v:Value) (l:List Bytes):Prop:=(v= .slice none 0 0∧l= [])∨∃b o c cs rw,v= .slice (some ⟨b,o,none⟩) l.length c∧(c=zaG∨l.length≤c)∧H.get b= .cells cs 9 rw∧∀(i:Nat) x,l[i]? =some x→cs[o+i]? =some (.string (ofL x))
theorem SIs.sv {H:Heap} {v:Value} {l:List Bytes} (h:SIs H v l):∃a c,v= .slice a l.length c∧Sv H a l:=by
 rcases h with ⟨rfl,rfl⟩|⟨b,o,c,cs,rw',rfl,hc,hg,hx⟩
 ·exact ⟨none,0,rfl,fun hp=>by simp at hp⟩
 ·exact ⟨_,_,rfl,fun _=>⟨b,o,cs,rw',rfl,hg,hx⟩⟩
theorem SIs.kp {H H':Heap} {v:Value} {l:List Bytes} (h:SIs H v l) (hk:Kp H.next H H'):SIs H' v l:=by
 rcases h with h|⟨b,o,c,cs,rw',h1,hc,hg,hx⟩
 ·exact .inl h
 ·exact .inr ⟨b,o,c,cs,rw',h1,hc,by rw [hk.2 b (zbl hg)];exact hg,hx⟩
theorem zdM:∀l:List Bytes,l.flatMap (fun x:Bytes=> [encS x])=strs l
 | []=>rfl
 |x::l=>by
  have:=zdM l
  simp only [List.flatMap_cons,this,strs,List.map_cons];rfl
theorem zgc {b:Nat} {kv:Value} {blk:Blk} (h:zgQ [.str] 9 b kv blk):∃l:List Bytes,(l.length:Int)≤9223372036854775807∧(∀x∈l,x.length≤maxLen)∧∀H:Heap,H.get b=blk→SIs H kv l:=by
 rcases h with rfl|⟨m,cs,hm,hs,rfl,rfl⟩
 ·exact ⟨[],by simp,by simp,fun H _=> .inl ⟨rfl,rfl⟩⟩
 ·obtain ⟨l,rfl,rfl,hb⟩:=zeJ (f:=fun x:Bytes=> [encS x]) (good:=fun x=>x.length≤maxLen) (by decide) (fun vs h=>by
   obtain ⟨_,_,rfl,⟨k,rfl,hk⟩,rfl⟩:=h
   exact ⟨k.data.toList,by simp [encS,zdo],by rw [Array.length_toList];exact hk⟩) m cs hs
  refine ⟨l,by unfold maxLen at hm;omega,hb,fun H hg=> .inr ⟨b,0,zaG,strs l,false,rfl,?_,?_,fun i x hx=>?_⟩⟩
  ·first|exact .inl rfl|exact .inr (Nat.le_refl _)
  ·rw [hg,zdM]
  ·rw [Nat.zero_add];exact zeU hx
section
variable {H:Heap}
structure SaI (HB:Heap) (v0 v1:Value) (l m:List Bytes) (d:Nat) (e:Fe) (H:Heap) (i:Nat):Prop where
 hd:d=l.length - i
 hi:i≤l.length
 hH:H=HB
 eq:l.take i=m.take i
 e0:e 0=v0
 e1:e 1=v1
 e12:e 12= .int .i64 l.length
 e13:e 13= .int .i64 i
theorem zjx {a a2:Option Addr} {c c2:Nat} {l m:List Bytes} (hl:Sv H a l) (hm:Sv H a2 m) (hn:l.length≤100000) (h:l=m):
  Wf S 44 [.slice a l.length c,.slice a2 m.length c2] H fun v H'=>H'=H∧v= .bool true:=by
 subst h
 refine w44 rfl rfl _ _ ?_
 simp [s44]
 refine l44_0 S (fun d e H'=>∃i,SaI H (.slice a l.length c) (.slice a2 l.length c2) l l d e H' i) l.length ⟨0,by omega,by omega,rfl,rfl,by simp,by simp,by simp,by simp⟩ ?_
 rintro d e H1 ⟨i,rfl,hi,rfl,_,e0,e1,e12,e13⟩
 by_cases h3:i< l.length
 ·obtain ⟨b,o,cs,rw',rfl,hg,hcs⟩:=hl (by omega)
  obtain ⟨b2,o2,cs2,rw2,rfl,hg2,hcs2⟩:=hm (by omega)
  obtain ⟨r,hr⟩:∃r,l[i]? =some r:=⟨_,List.getElem?_eq_getElem h3⟩
  have hcr:=hcs i r hr
  have hcr2:=hcs2 i r hr
  have h3':(i:Int)< l.length:=by omega
  have w2:IntKind.i64.wrap ((i:Int)+1)=((i+1:Nat):Int):=by rw [wi (by omega) (by omega)];omega
  simp [s44_0,e0,e1,e12,e13,h3,h3',zak,hg,hg2,hcr,hcr2,zke,w2]
  exact ⟨l.length - (i+1),by omega,i+1,rfl,by omega,rfl,rfl,by simp [e0],by simp [e1],by simp [e12],by simp⟩
 ·obtain rfl:i=l.length:=by omega
  simp [s44_0,e12,e13]
end
theorem zeV {l:List Bytes} {i:Nat} {x:Bytes} (h:l[i]? =some x):tot (l.take (i+1))=tot (l.take i)+x.length:=by
 rw [List.take_add_one,h,zeb];simp [tot]
theorem zcT {l:List Bytes} (i:Nat):tot (l.take i)≤tot l:=by
 have:=zeb (l.take i) (l.drop i)
 rw [List.take_append_drop] at this
 omega
section
variable {H:Heap}
structure TtI (HB:Heap) (n sl ln ix:Nat) (v0:Value) (l:List Bytes) (d:Nat) (e:Fe) (H:Heap) (i:Nat):Prop where
 hd:d=l.length - i
 hi:i≤l.length
 hH:H=HB
 es:e sl=v0
 eg:e n= .int .i64 (tot (l.take i))
 ei:e ix= .int .i64 i
 el:ln=0∨e ln= .int .i64 l.length
theorem zfQ {a:Option Addr} {c:Nat} {l:List Bytes} (hl:Sv H a l) (ht:tot l≤1000000) (hn:l.length≤1000000):
  Wf S 70 [.slice a l.length c] H fun v H'=>H'=H∧v= .int .i64 (tot l):=by
 refine w70 rfl rfl _ ?_
 simp [s70]
 refine l70_0 S (fun d e H'=>∃i,TtI H 3 6 7 8 (.slice a l.length c) l d e H' i) l.length ⟨0,by omega,by omega,rfl,by simp,by simp [tot],by simp,.inr (by simp)⟩ ?_
 rintro d e H1 ⟨i,rfl,hi,rfl,es,eg,ei,el⟩
 have el:e 7= .int .i64 l.length:=by simpa using el
 by_cases h3:i< l.length
 ·obtain ⟨b,o,cs,rw',rfl,hg,hcs⟩:=hl (by omega)
  obtain ⟨r,hr⟩:∃r,l[i]? =some r:=⟨_,List.getElem?_eq_getElem h3⟩
  have hcr:=hcs i r hr
  have h3':(i:Int)< l.length:=by omega
  have h4:=zeV hr
  have h5:=zcT (l:=l) (i+1)
  have w1:IntKind.i64.wrap ((i:Int)+1)=((i+1:Nat):Int):=by rw [wi (by omega) (by omega)];omega
  have w2:IntKind.i64.wrap ((tot (l.take i):Int)+r.length)=((tot (l.take (i+1)):Nat):Int):=by rw [wi (by omega) (by omega)];omega
  simp [s70_0,es,eg,ei,el,h3,h3',zak,hg,hcr,zaJ,w1,w2]
  exact ⟨l.length - (i+1),by omega,i+1,rfl,by omega,rfl,by simp [es],by simp,by simp,.inr (by simp [el])⟩
 ·obtain rfl:i=l.length:=by omega
  rw [List.take_length] at eg
  simp [s70_0,eg,ei,el]
theorem zeW {a:Option Addr} {c:Nat} {l:List Bytes} (hl:Sv H a l) (ht:tot l≤1000000) (hn:l.length≤1000000):
  Wf S 39 [.slice a l.length c] H fun v H'=>H'=H∧v= .int .i64 (tot l):=by
 refine w39 rfl rfl _ ?_
 simp [s39]
 refine l39_0 S (fun d e H'=>∃i,TtI H 3 0 0 4 (.slice a l.length c) l d e H' i) l.length ⟨0,by omega,by omega,rfl,by simp,by simp [tot],by simp,.inl rfl⟩ ?_
 rintro d e H1 ⟨i,rfl,hi,rfl,es,eg,ei,el⟩
 by_cases h3:i< l.length
 ·obtain ⟨b,o,cs,rw',rfl,hg,hcs⟩:=hl (by omega)
  obtain ⟨r,hr⟩:∃r,l[i]? =some r:=⟨_,List.getElem?_eq_getElem h3⟩
  have hcr:=hcs i r hr
  have h3':(i:Int)< l.length:=by omega
  have h4:=zeV hr
  have h5:=zcT (l:=l) (i+1)
  have w1:IntKind.i64.wrap ((i:Int)+1)=((i+1:Nat):Int):=by rw [wi (by omega) (by omega)];omega
  have w2:IntKind.i64.wrap ((tot (l.take i):Int)+r.length)=((tot (l.take (i+1)):Nat):Int):=by rw [wi (by omega) (by omega)];omega
  simp [s39_0,es,eg,ei,h3,h3',zak,hg,hcr,zaJ,w1,w2]
  exact ⟨l.length - (i+1),by omega,i+1,rfl,by omega,rfl,by simp [es],by simp,by simp,.inl rfl⟩
 ·obtain rfl:i=l.length:=by omega
  rw [List.take_length] at eg
  simp [s39_0,es,eg,ei]
end
def Ap (v w:Value):Prop:=∀b m c,v= .slice (some b) m c→∀b' m' c',w= .slice (some b') m' c'→b.block≠b'.block
theorem Ap.symm {v w:Value} (h:Ap v w):Ap w v:=fun b m c e b' m' c' e' q=>h b' m' c' e' b m c e q.symm
theorem Ap.none {v:Value}:Ap v (.slice none 0 0):=fun b m c e b' m' c' e'=>by cases e'
theorem Acc.keep {t z N M M' n:Nat} {H H':Heap} {v w:Value} {cs:List Value} (h:Acc t z N M H v n cs) (ha:Ap v w) (hk:∀k,k< M→(∀b m c,w= .slice (some b) m c→b.block≠k)→H'.get k=H.get k) (hM:M≤M'):Acc t z N M' H' v n cs:=by
 rcases h with h|⟨b,c,h1,h2,rfl,h4,h5,h6⟩
 ·exact .inl h
 ·refine .inr ⟨b,c,h1,by omega,rfl,h4,?_,h6⟩
  rw [hk b h2 fun b' m' c' e q=>ha _ _ _ rfl b' m' c' e q.symm];exact h5
theorem Acc.low {t z N M M' n:Nat} {H:Heap} {v:Value} {cs:List Value} (h:Acc t z N M H v n cs) (hM:M'≤N):Acc t z M' M H v n cs:=by
 rcases h with h|⟨b,c,h1,h2,rfl,h4,h5,h6⟩
 ·exact .inl h
 ·exact .inr ⟨b,c,by omega,h2,rfl,h4,h5,h6⟩
theorem Acc.ap {t z N M n t' z' N' M' n':Nat} {H H':Heap} {v w:Value} {cs cs':List Value} (h:Acc t z N M H v n cs) (h':Acc t' z' N' M' H' w n' cs') (hM:M≤N'):Ap v w:=by
 intro b m c e b' m' c' e'
 rcases h with ⟨_,_,rfl⟩|⟨b0,c0,h1,h2,rfl,_⟩
 ·cases e
 ·rcases h' with ⟨_,_,rfl⟩|⟨b1,c1,q1,q2,rfl,_⟩
  ·cases e'
  ·cases e;cases e';simp only;omega
structure SpM (N:Nat) (H:Heap) (gv nv:Value) (vs:List Value) (out:List (List Bytes)) (now:List Bytes):Prop where
 hn:N≤H.next
 g:Acc 42 1 N H.next H gv out.length vs
 n:Acc 9 1 N H.next H nv now.length (strs now)
 vl:vs.length=out.length
 o:∀(j:Nat) v b,vs[j]? =some v→out[j]? =some b→Acc 9 1 N H.next H v b.length (strs b)
 ng:Ap nv gv
 vn:∀v∈vs,Ap v nv
 vg:∀v∈vs,Ap v gv
theorem SpM.now {N:Nat} {H:Heap} {gv nv:Value} {vs:List Value} {out:List (List Bytes)} {now:List Bytes} (h:SpM N H gv nv vs out now) (s:Bytes) (hl:now.length≤1000):
  ∃v' H2,zbu (H.push (.cells [.string (ofL s)] 9 true)) 9 1 16 nv 1 [.string (ofL s)]=some (v',H2)∧SpM N H2 gv v' vs out (now++ [s])∧Kp N H H2:=by
 obtain ⟨H1,hH1⟩:∃H1,H1=H.push (.cells [.string (ofL s)] 9 true):=⟨_,rfl⟩
 have n1:H1.next=H.next+1:=by rw [hH1];simp
 have k1:∀k,k< H.next→H1.get k=H.get k:=fun k hk=>by rw [hH1,zam hk]
 have hA:Acc 9 1 N H1.next H1 nv now.length (strs now):=(h.n.kp fun b _ hb=>k1 b hb).mono (by omega)
 obtain ⟨v',H2,e1,hA2,hn2,hk2⟩:=hA.appN2 (m:=1) (bytes:=16) (new:= [.string (ofL s)]) (by omega) (by simp) (by unfold zal;omega)
 have hN:=h.hn
 have kk:∀k,k< H.next→(∀b m c,nv= .slice (some b) m c→b.block≠k)→H2.get k=H.get k:=fun k hk ho=>(hk2 k (by omega) ho).trans (k1 k hk)
 have he:strs (now++ [s])=strs now++ [.string (ofL s)]:=by simp [strs,encS]
 refine ⟨v',H2,by rw [←hH1];exact e1,⟨by omega,h.g.keep h.ng.symm kk (by omega),?_,h.vl,fun j v b hv hb=>(h.o j v b hv hb).keep (h.vn v (List.mem_of_getElem? hv)) kk (by omega),?_,?_,h.vg⟩,by omega,?_⟩
 ·rw [he];simpa using hA2.low (by omega)
 ·exact (h.g.ap hA2 (by omega)).symm
 ·intro v hv
  obtain ⟨j,hj⟩:=List.mem_iff_getElem?.1 hv
  obtain ⟨b,hb⟩:∃b,out[j]? =some b:=⟨_,List.getElem?_eq_getElem (by rw [←h.vl];exact (List.getElem?_eq_some_iff.1 hj).1)⟩
  exact (h.o j v b hj hb).ap hA2 (by omega)
 ·intro k hk
  refine kk k (by omega) fun b m c e q=>?_
  rcases h.n with ⟨_,_,r⟩|⟨b0,c0,h1,h2,r,_⟩
  ·rw [r] at e;cases e
  ·rw [r] at e;cases e;simp only at q;omega
theorem SpM.out {N:Nat} {H:Heap} {gv nv:Value} {vs:List Value} {out:List (List Bytes)} {now:List Bytes} (h:SpM N H gv nv vs out now) (hl:out.length≤1000):
  ∃v' H2,zbu (H.push (.cells [nv] 42 true)) 42 1 24 gv 1 [nv]=some (v',H2)∧SpM N H2 v' (.slice none 0 0) (vs++ [nv]) (out++ [now]) []∧Kp N H H2:=by
 obtain ⟨H1,hH1⟩:∃H1,H1=H.push (.cells [nv] 42 true):=⟨_,rfl⟩
 have n1:H1.next=H.next+1:=by rw [hH1];simp
 have k1:∀k,k< H.next→H1.get k=H.get k:=fun k hk=>by rw [hH1,zam hk]
 have hA:Acc 42 1 N H1.next H1 gv out.length vs:=(h.g.kp fun b _ hb=>k1 b hb).mono (by omega)
 obtain ⟨v',H2,e1,hA2,hn2,hk2⟩:=hA.appN2 (m:=1) (bytes:=24) (new:= [nv]) (by omega) (by simp) (by unfold zal;omega)
 have hN:=h.hn
 have kk:∀k,k< H.next→(∀b m c,gv= .slice (some b) m c→b.block≠k)→H2.get k=H.get k:=fun k hk ho=>(hk2 k (by omega) ho).trans (k1 k hk)
 have hall:∀(j:Nat) v b,(vs++ [nv])[j]? =some v→(out++ [now])[j]? =some b→Acc 9 1 N H.next H v b.length (strs b)∧Ap v gv:=fun j v b hv hb=>by
  rcases zds hv with hv|⟨q,rfl⟩
  ·have hj:=(List.getElem?_eq_some_iff.1 hv).1
   have hvl:=h.vl
   rw [List.getElem?_append_left (by omega)] at hb
   exact ⟨h.o j v b hv hb,h.vg v (List.mem_of_getElem? hv)⟩
  ·have hvl:=h.vl
   rw [q,List.getElem?_append_right (by omega)] at hb
   simp [hvl] at hb
   subst hb
   exact ⟨h.n,h.ng⟩
 have hall2:∀v∈vs++ [nv],∃b:List Bytes,Acc 9 1 N H.next H v b.length (strs b):=fun v hv=>by
  obtain ⟨j,hj⟩:=List.mem_iff_getElem?.1 hv
  obtain ⟨b,hb⟩:∃b,(out++ [now])[j]? =some b:=⟨_,List.getElem?_eq_getElem (by have:=(List.getElem?_eq_some_iff.1 hj).1;have:=h.vl;simp at*;omega)⟩
  exact ⟨b,(hall j v b hj hb).1⟩
 refine ⟨v',H2,by rw [←hH1];exact e1,⟨by omega,?_,Acc.nil,by simp [h.vl],fun j v b hv hb=>(hall j v b hv hb).1.keep (hall j v b hv hb).2 kk (by omega),Ap.none.symm,fun v _=>Ap.none,?_⟩,by omega,?_⟩
 ·simpa using hA2.low (by omega)
 ·intro v hv
  obtain ⟨b,hb⟩:=hall2 v hv
  exact hb.ap hA2 (by omega)
 ·intro k hk
  refine kk k (by omega) fun b m c e q=>?_
  rcases h.g with ⟨_,_,r⟩|⟨b0,c0,h1,h2,r,_⟩
  ·rw [r] at e;cases e
  ·rw [r] at e;cases e;simp only at q;omega
section
variable {H:Heap}
def bK (most:Int):Nat:=(min (max most 1) 512).toNat
theorem row1 (H:Heap) (t:TypeId) (x:Value):za8 (H.push (.cells [x] t true)) t 1 1 (some ⟨H.next,0,none⟩)=some [x]:=by
 simp [za8,zaO,rd]
structure SlI (H0:Heap) (l:List Bytes) (a:Option Addr) (c k:Nat) (d:Nat) (e:Fe) (H:Heap) (i:Nat) (gv nv:Value) (vs:List Value):Prop where
 hi:i≤l.length
 hd:d=l.length - i
 kp:Kp H0.next H0 H
 m:SpM H0.next H gv nv vs (spF k (l.take i)).1 (spF k (l.take i)).2
 sm:∀s∈l.take i,s.length≤k
 e1:e 1= .int .i64 k
 e6:e 6=gv
 e7:e 7=nv
 e13:e 13= .slice a l.length c
 e14:e 14= .int .i64 l.length
 e15:e 15= .int .i64 i
theorem zfR {k:Nat} {l:List Bytes} (h:∀s∈l,s.length≤k):(spF k l).1.length≤l.length∧(spF k l).2.length≤100∧tot (spF k l).2≤k:=by
 have hp:=zfl k _ l rfl h
 obtain ⟨hn,hg,hf⟩:=hp
 generalize spF k l=p at*
 obtain ⟨out,now⟩:=p
 simp only at*
 unfold spE at hg hf
 have aux:∀G:List (List Bytes),(∀b∈G,b≠ [])→G.length≤G.flatten.length:=by
  intro G
  induction G with
  |nil=>intro _;simp
  |cons b G ih=>
   intro h
   have h1:=ih fun b hb=>h b (by simp [hb])
   have h2:=List.length_pos_iff.2 (h b (by simp))
   simp only [List.length_cons,List.flatten_cons,List.length_append];omega
 by_cases h0:now= []
 ·obtain rfl:=hn h0
  subst h0
  simp [tot]
 ·simp only [if_neg h0] at hg hf
  have h1:=aux _ fun b hb=>(hg.one b hb).1
  rw [hf] at h1
  obtain ⟨_,q2,q3⟩:=hg.one now (by simp)
  simp at h1
  exact ⟨by omega,q2,q3⟩
theorem zhv {a:Option Addr} {c:Nat} {l:List Bytes} (most:Int) (hl:Sv H a l) (hn:l.length≤300) (hs:∀s∈l,s.length≤100):
  Wf S 46 [.slice a l.length c,.int .i64 most] H fun v H'=>Kp H.next H H'∧if ∀s∈l,s.length≤bK most then ∃gv nv vs,v= .tuple #[gv,.int .i64 0]∧SpM H.next H' gv nv vs (spE (spF (bK most) l)) [] else v= .tuple #[.slice none 0 0,.int .i64 5]:=by
 refine w46 rfl rfl _ _ ?_
 have hk:((bK most:Nat):Int)=min (max most 1) 512:=by unfold bK;omega
 have hk1:1≤bK most∧bK most≤512:=by unfold bK;omega
 obtain ⟨k,hke⟩:∃k,k=bK most:=⟨_,rfl⟩
 rw [←hke] at hk hk1⊢
 simp [s46,←hk]
 refine l46_0 S (fun d e H'=>∃i gv nv vs,SlI H l a c k d e H' i gv nv vs) l.length ⟨0,.slice none 0 0,.slice none 0 0,[],by omega,rfl,Kp.refl _ _,⟨Nat.le_refl _,Acc.nil,Acc.nil,rfl,fun j v b hv=>by simp at hv,Ap.none,by simp,by simp⟩,by simp,by simp,by simp,by simp,by simp,by simp,by simp⟩ ?_
 rintro d e H1 ⟨i,gv,nv,vs,hi,rfl,kp,m,sm,e1,e6,e7,e13,e14,e15⟩
 obtain ⟨q1,q2,q3⟩:=zfR sm
 have hn1:=kp.1
 have hti:(l.take i).length=i:=by rw [List.length_take];omega
 rw [hti] at q1
 by_cases h3:i< l.length
 ·have hl1:=hl.kp kp
  obtain ⟨b,o,cs,rw',rfl,hg,hcs⟩:=hl1 (by omega)
  obtain ⟨r,hr⟩:∃r,l[i]? =some r:=⟨_,List.getElem?_eq_getElem h3⟩
  have hcr:=hcs i r hr
  have h3':(i:Int)< l.length:=by omega
  have hrl:=hs r (List.mem_of_getElem? hr)
  by_cases h4:k< r.length
  ·have h4':(k:Int)< r.length:=by omega
   simp [s46_0,e1,e6,e7,e13,e14,e15,h3,h3',zak,hg,hcr,zaJ,h4,h4',tup]
   exact ⟨kp,r,List.mem_of_getElem? hr,h4⟩
  ·have h4':¬(k:Int)< r.length:=by omega
   obtain ⟨out,now,hp⟩:∃out now,spF k (l.take i)=(out,now):=⟨_,_,rfl⟩
   have hstep:spF k (l.take (i+1))=spS k (out,now) r:=by rw [List.take_add_one,hr,←hp];exact zfP k _ r
   have sm':∀s∈l.take (i+1),s.length≤k:=by
    intro s hs'
    rw [List.take_add_one,hr] at hs'
    rcases List.mem_append.1 hs' with h|h
    ·exact sm s h
    ·simp at h;subst h;omega
   rw [hp] at m q1 q2 q3
   simp only at m q1 q2 q3
   have w1:IntKind.i64.wrap ((i:Int)+1)=((i+1:Nat):Int):=by rw [wi (by omega) (by omega)];omega
   have w2:IntKind.i64.wrap ((tot now:Int)+r.length)=(tot now:Int)+r.length:=wi (by omega) (by omega)
   obtain ⟨an,cn,hnv,hsn⟩:=m.n.sv rfl
   by_cases h5:now.length=100∨k< tot now+r.length
   ·have hsp:spS k (out,now) r=(out++ [now],[r]):=by unfold spS;simp only;rw [if_pos h5]
    obtain ⟨v3,H3,e3,m3,k3⟩:=m.out (by omega)
    obtain ⟨v4,H4,e4,m4,k4'⟩:=m3.now r (by simp)
    have k4:=k3.trans k4'
    by_cases h6:now.length=100
    ·rw [hnv,h6] at e3
     simp [s46_0,e1,e6,e7,e13,e14,e15,h3,h3',zak,hg,hcr,zaJ,h4,h4',hnv,h6,zaR,za7,zbn,cellsL,wr,row1,e3,e4,w1]
     exact ⟨l.length - (i+1),by omega,i+1,v3,v4,_,by omega,rfl,kp.trans k4,by rw [hstep,hsp];simpa using m4,sm',by simp [e1],by simp [e6],by simp,by simp [e13],by simp [e14],by simp⟩
    ·have h7:k< tot now+r.length:=by omega
     have h7':(k:Int)< (tot now:Int)+r.length:=by omega
     have h6':¬(now.length:Int)=100:=by omega
     rw [hnv] at e3
     simp [s46_0,e1,e6,e7,e13,e14,e15,h3,h3',zak,hg,hcr,zaJ,h4,h4',hnv,h6,h6']
     refine (zfQ hsn (by omega) (by omega)).mono ?_
     rintro v H5 ⟨rfl,rfl⟩
     simp [w2,h7',zaR,za7,zbn,cellsL,wr,row1,e6,e7,hnv,e3,e4,w1,e15]
     exact ⟨l.length - (i+1),by omega,i+1,v3,v4,_,by omega,rfl,kp.trans k4,by rw [hstep,hsp];simpa using m4,sm',by simp [e1],by simp [e6],by simp,by simp [e13],by simp [e14],by simp⟩
   ·have h6:¬now.length=100:=fun h=>h5 (.inl h)
    have h7:¬k< tot now+r.length:=fun h=>h5 (.inr h)
    have h7':¬(k:Int)< (tot now:Int)+r.length:=by omega
    have h6':¬(now.length:Int)=100:=by omega
    have hsp:spS k (out,now) r=(out,now++ [r]):=by unfold spS;simp only;rw [if_neg h5]
    obtain ⟨v4,H4,e4,m4,k4⟩:=m.now r (by omega)
    rw [hnv] at e4
    simp [s46_0,e1,e6,e7,e13,e14,e15,h3,h3',zak,hg,hcr,zaJ,h4,h4',hnv,h6,h6']
    refine (zfQ hsn (by omega) (by omega)).mono ?_
    rintro v H5 ⟨rfl,rfl⟩
    simp [w2,h7',zaR,za7,zbn,cellsL,wr,row1,e6,e7,hnv,e4,w1,e15]
    exact ⟨l.length - (i+1),by omega,i+1,gv,v4,vs,by omega,rfl,kp.trans k4,by rw [hstep,hsp];simpa using m4,sm',by simp [e1],by simp [e6],by simp,by simp [e13],by simp [e14],by simp⟩
 ·obtain rfl:i=l.length:=by omega
  rw [List.take_length] at m sm
  have hsm:∀s∈l,s.length≤k:=sm
  obtain ⟨out,now,hp⟩:∃out now,spF k l=(out,now):=⟨_,_,rfl⟩
  rw [List.take_length,hp] at q1 q2 q3
  rw [hp] at m⊢
  simp only at m q1 q2 q3
  obtain ⟨an,cn,hnv,hsn⟩:=m.n.sv rfl
  by_cases h0:now= []
  ·subst h0
   simp [s46_0,e6,e7,e14,e15,hnv,tup,spE,if_pos hsm]
   exact ⟨kp,_,_,m⟩
  ·have h0':0< now.length:=List.length_pos_iff.2 h0
   have h0'':(0:Int)< now.length:=by omega
   obtain ⟨v3,H3,e3,m3,k3⟩:=m.out (by omega)
   rw [hnv] at e3
   simp [s46_0,e6,e7,e14,e15,hnv,tup,spE,h0,h0',h0'',zaR,za7,zbn,cellsL,wr,row1,e3,if_pos hsm]
   exact ⟨kp.trans k3,_,_,m3⟩
end
structure LgI (H0:Heap) (l:List Bytes) (a:Option Addr) (c k:Nat) (most:Int) (d:Nat) (e:Fe) (H:Heap) (i:Nat) (b:Bool):Prop where
 hi:i≤l.length
 hd:d=l.length - i
 hH:H=H0
 hs:∀s∈l.take i,s.length≤100
 hb:b=true↔∃s∈l.take i,k< s.length
 e0:e 0= .slice a l.length c
 e1:e 1= .int .i64 most
 e5:e 5= .int .i64 k
 e6:e 6= .bool b
 e23:e 23= .slice a l.length c
 e24:e 24= .int .i64 l.length
 e25:e 25= .int .i64 i
def LgE (H0:Heap) (l:List Bytes) (a:Option Addr) (c k:Nat) (most:Int) (d:Nat) (e:Fe) (H:Heap):Prop:=∃i b,LgI H0 l a c k most d e H i b
structure AlI (Hs:Heap) (l:List Bytes) (G:List (List Bytes)) (v0 gv:Value) (k:Nat) (d:Nat) (e:Fe) (H:Heap) (i:Nat) (av:Value):Prop where
 hi:i≤G.length
 hd:d=G.length - i
 kp:Kp Hs.next Hs H
 ac:Acc 9 1 Hs.next H.next H av (G.take i).flatten.length (strs (G.take i).flatten)
 e0:e 0=v0
 e5:e 5= .int .i64 k
 e9:e 9=gv
 e10:e 10= .int .i64 0
 e11:e 11=av
 e54:e 54=gv
 e55:e 55= .int .i64 G.length
 e56:e 56= .int .i64 i
theorem lawSplits (kv:Value) (blk:Blk) (most:Int) (hk:zgQ [.str] 9 0 kv blk) (hnw:(Lit.int .i64 most).wf=true):Wf S 13 [kv,.int .i64 most] [blk] fun v _=>v= .bool true:=by
 obtain ⟨l,hn,hx,hsi⟩:=zgc hk
 obtain ⟨a,c,rfl,hsv⟩:=(hsi [blk] rfl).sv
 refine w13 rfl rfl _ _ ?_
 simp [s13]
 refine zhU aw40_prim ⟨_,_,rfl,?_⟩
 have hkk:((bK most:Nat):Int)=min (max most 1) 512:=by unfold bK;omega
 have hk1:1≤bK most∧bK most≤512:=by unfold bK;omega
 obtain ⟨k,hke⟩:∃k,k=bK most:=⟨_,rfl⟩
 rw [←hke] at hkk hk1
 by_cases h300:(300:Int)< l.length
 ·simp [h300]
 simp [h300,←hkk]
 refine l13_1 S (LgE [blk] l a c k most) l.length ⟨0,false,by omega,rfl,rfl,by simp,by simp,by simp,by simp,by simp,by simp,by simp,by simp,by simp⟩ ?_
 rintro d e H1 ⟨i,b,hi,rfl,rfl,hs,hb,e0,e1,e5,e6,e23,e24,e25⟩
 by_cases h3:i< l.length
 ·obtain ⟨bb,o,cs,rw',rfl,hg,hcs⟩:=hsv (by omega)
  obtain ⟨r,hr⟩:∃r,l[i]? =some r:=⟨_,List.getElem?_eq_getElem h3⟩
  have hcr:=hcs i r hr
  have h3':(i:Int)< l.length:=by omega
  have w1:IntKind.i64.wrap ((i:Int)+1)=((i+1:Nat):Int):=by rw [wi (by omega) (by omega)];omega
  by_cases h4:(100:Int)< r.length
  ·simp [s13_1,e0,e1,e5,e6,e23,e24,e25,h3,h3',zak,hg,hcr,zaJ,h4]
  ·have hs':∀s∈l.take (i+1),s.length≤100:=by
    intro s hs'
    rw [List.take_add_one,hr] at hs'
    rcases List.mem_append.1 hs' with h|h
    ·exact hs s h
    ·simp at h;subst h;omega
   have hb':∀b':Bool,(b'=true↔b=true∨k< r.length)→(b'=true↔∃s∈l.take (i+1),k< s.length):=fun b' h=>by
    rw [h,hb,List.take_add_one,hr]
    constructor
    ·rintro (⟨s,h1,h2⟩|h1)
     ·exact ⟨s,by simp [h1],h2⟩
     ·exact ⟨r,by simp,h1⟩
    ·rintro ⟨s,h1,h2⟩
     rcases List.mem_append.1 h1 with h1|h1
     ·exact .inl ⟨s,h1,h2⟩
     ·simp at h1;subst h1;exact .inr h2
   cases b with
   |true=>
    simp [s13_1,e0,e1,e5,e6,e23,e24,e25,h3,h3',zak,hg,hcr,zaJ,h4,w1]
    exact ⟨l.length - (i+1),by omega,i+1,true,by omega,rfl,rfl,hs',hb' true (by simp),by simp [e0],by simp [e1],by simp [e5],by simp,by simp [e23],by simp [e24],by simp⟩
   |false=>
    simp [s13_1,e0,e1,e5,e6,e23,e24,e25,h3,h3',zak,hg,hcr,zaJ,h4,w1]
    exact ⟨l.length - (i+1),by omega,i+1,decide (k< r.length),by omega,rfl,rfl,hs',hb' _ (by simp),by simp [e0],by simp [e1],by simp [e5],by simp,by simp [e23],by simp [e24],by simp⟩
 ·obtain rfl:i=l.length:=by omega
  rw [List.take_length] at hs hb
  simp [s13_1,e0,e1,e5,e6,e23,e24,e25]
  refine (zhv most hsv (by omega) hs).mono ?_
  rintro v Hs ⟨hks,hv⟩
  rw [←hke] at hv
  by_cases hlong:b=true
  ·obtain ⟨s,h1,h2⟩:=hb.1 hlong
   rw [if_neg (fun h=>absurd (h s h1) (by omega))] at hv
   subst hv
   simp [e6,hlong]
  ·have hall:∀s∈l,s.length≤k:=fun s h=>by
    rcases Nat.lt_or_ge k s.length with h2|h2
    ·exact absurd (hb.2 ⟨s,h,h2⟩) hlong
    ·exact h2
   rw [if_pos hall] at hv
   obtain ⟨gv,nv,vs,rfl,m⟩:=hv
   obtain ⟨_,hgd,hfl⟩:=zfl k _ l rfl hall
   obtain ⟨G,hG⟩:∃G,G=spE (spF k l):=⟨_,rfl⟩
   rw [←hG] at m hgd hfl
   obtain ⟨ga,gc,rfl,hgg⟩:=m.g.len
   have hbf:b=false:=by simpa using hlong
   subst hbf
   simp [e6,e0]
   have hgl:G.length≤300:=by
    have h:=(zfR hall)
    have:G.length≤(spF k l).1.length+1:=by
     rw [hG];unfold spE;split
     ·omega
     ·simp
    rcases Nat.lt_or_ge G.length 301 with h'|h'
    ·omega
    ·have aux:∀G:List (List Bytes),(∀b∈G,b≠ [])→G.length≤G.flatten.length:=by
      intro G
      induction G with
      |nil=>intro _;simp
      |cons b G ih=>
       intro h
       have h1:=ih fun b hb=>h b (by simp [hb])
       have h2:=List.length_pos_iff.2 (h b (by simp))
       simp only [List.length_cons,List.flatten_cons,List.length_append];omega
     have:=aux G fun b hb=>(hgd.one b hb).1
     rw [hfl] at this
     omega
   have hsvs:∀H:Heap,Kp 1 [blk] H→Sv H a l:=fun H hk hp=>by
    obtain ⟨b,o,cs,rw',h1,h2,h3⟩:=hsv hp
    have hb0:b=0:=by
     have:=zbl h2
     have e:Heap.next [blk]=1:=rfl
     omega
    exact ⟨b,o,cs,rw',h1,by rw [hk.2 b (by omega)];exact h2,h3⟩
   have hk1s:Kp 1 [blk] Hs:=hks
   refine l13_0 S (fun d e H'=>∃i av,AlI Hs l G (.slice a l.length c) (.slice ga G.length gc) k d e H' i av) G.length ⟨0,.slice none 0 0,by omega,rfl,Kp.refl _ _,by simpa [strs] using Acc.nil,by simp [e0],by simp [e5],by simp,by simp,by simp,by simp,by simp,by simp⟩ ?_
   rintro d e2 H2 ⟨i,av,hi,rfl,kp,ac,f0,f5,f9,f10,f11,f54,f55,f56⟩
   have hns:=m.hn
   have hss:=kp.1
   by_cases h3:i< G.length
   ·obtain ⟨bg,rfl,hgb⟩:=hgg (by omega)
    have hgb2:=(kp.2 bg (zbl hgb)).trans hgb
    obtain ⟨b,hb⟩:∃b,G[i]? =some b:=⟨_,List.getElem?_eq_getElem h3⟩
    obtain ⟨v,hv⟩:∃v,vs[i]? =some v:=⟨_,List.getElem?_eq_getElem (by rw [m.vl];exact h3)⟩
    have hac:=(m.o i v b hv hb).kp (H':=H2) fun q _ hq=>kp.2 q hq
    obtain ⟨av2,ac2,hve,hsb⟩:=hac.sv rfl
    obtain ⟨av3,ac3,hve3,hrow⟩:=hac.row
    rw [hve] at hve3 hv
    simp only [Value.slice.injEq,true_and] at hve3
    obtain ⟨rfl,rfl⟩:=hve3
    obtain ⟨hb1,hb2,hb3⟩:=hgd.one b (List.mem_of_getElem? hb)
    have hbl:0< b.length:=List.length_pos_iff.2 hb1
    have h3':(i:Int)< G.length:=by omega
    have hb1':¬(b.length:Int)=0:=by omega
    have hb1'':¬b= []:=hb1
    have hb2':¬(100:Int)< b.length:=by omega
    have hb3':¬(k:Int)< tot b:=by omega
    have w1:IntKind.i64.wrap ((i:Int)+1)=((i+1:Nat):Int):=by rw [wi (by omega) (by omega)];omega
    simp [s13_0,f0,f5,f9,f10,f11,f54,f55,f56,h3,h3',zak,hgb2,hv,hb1',hb1'',hb2']
    refine (zeW hsb (by omega) (by omega)).mono ?_
    rintro v H3 ⟨rfl,rfl⟩
    obtain ⟨av',H5,e5,ha5,hn5,hk5'⟩:=ac.appN2 (m:=b.length) (bytes:=16) (new:=strs b) hbl (by simp [strs]) (by
     have h1:(G.take i).flatten.length≤G.flatten.length:=by
      have:G.flatten=(G.take i).flatten++(G.drop i).flatten:=by rw [←List.flatten_append,List.take_append_drop]
      rw [this,List.length_append];omega
     rw [hfl] at h1
     unfold zal;omega)
    have hk5:Kp Hs.next H3 H5:=⟨by omega,fun q hq=>hk5' q (by omega) fun bb m' c' e q'=>by
     rcases ac with ⟨_,_,r⟩|⟨b0,c0,h1,h2,r,_⟩
     ·rw [r] at e;cases e
     ·rw [r] at e;cases e;simp only at q';omega⟩
    have hft:(G.take (i+1)).flatten=(G.take i).flatten++b:=by rw [List.take_add_one,hb];simp
    have hac5:Acc 9 1 Hs.next H5.next H5 av' (G.take (i+1)).flatten.length (strs (G.take (i+1)).flatten):=by
     rw [hft,zhu,List.length_append];exact ha5.low (by omega)
    by_cases hi0:i=0
    ·subst hi0
     simp [hb3',f5,f9,f56,f11,hrow,e5]
     exact ⟨G.length - 1,by omega,0+1,av',by omega,rfl,kp.trans hk5,hac5,by simp [f0],by simp [f5],by simp [f9],by simp [f10],by simp,by simp [f54],by simp [f55],by simp;exact wi (by omega) (by omega)⟩
    ·obtain ⟨last,hla⟩:∃last,G[i - 1]? =some last:=⟨_,List.getElem?_eq_getElem (by omega)⟩
     obtain ⟨vl,hvl⟩:∃vl,vs[i - 1]? =some vl:=⟨_,List.getElem?_eq_getElem (by rw [m.vl];omega)⟩
     have hacl:=(m.o (i - 1) vl last hvl hla).kp (H':=H3) fun q _ hq=>kp.2 q hq
     obtain ⟨al,cl,hle,hsl⟩:=hacl.sv rfl
     rw [hle] at hvl
     obtain ⟨hl1,hl2,hl3⟩:=hgd.one last (List.mem_of_getElem? hla)
     have hi0':(0:Int)< i:=by omega
     have hi0n:0< i:=by omega
     have w3:IntKind.i64.wrap ((i:Int) - 1)=((i - 1:Nat):Int):=by rw [wi (by omega) (by omega)];omega
     have hge:((i - 1:Nat):Int)< G.length:=by omega
     have hge2:i - 1< G.length:=by omega
     by_cases h7:last.length< 100
     ·have h7':(last.length:Int)< 100:=by omega
      obtain ⟨s0,hs0⟩:∃s0,b[0]? =some s0:=⟨_,List.getElem?_eq_getElem hbl⟩
      obtain ⟨b3,o3,cs3,rw3,rfl,hg3,hcs3⟩:=hsb hbl
      have hc3:=hcs3 0 s0 hs0
      rw [Nat.add_zero] at hc3
      have hno:=hgd.two (i - 1) last b s0 hla (by rw [show i - 1+1=i by omega];exact hb) hs0
      have hno':¬((tot last:Int)+s0.length≤k):=by omega
      have hsl0:s0.length≤100:=hs s0 (by rw [←hfl];exact List.mem_flatten.2 ⟨b,List.mem_of_getElem? hb,List.mem_of_getElem? hs0⟩)
      have w4:IntKind.i64.wrap ((tot last:Int)+s0.length)=(tot last:Int)+s0.length:=wi (by omega) (by omega)
      simp [hb3',f5,f9,f56,f11,hi0',hi0n,w3,hge,hge2,zak,hgb2,hvl,h7,h7',hbl,hg3,hc3]
      refine (zeW hsl (by omega) (by omega)).mono ?_
      rintro v H4 ⟨rfl,rfl⟩
      simp [kop,hg3,hc3,zaJ,w4,hno',f11,hrow,e5,f56,w1]
      refine ⟨fun _=>by simp [veq,veq1],?_⟩
      exact ⟨G.length - (i+1),by omega,i+1,av',by omega,rfl,kp.trans hk5,hac5,by simp [f0],by simp [f5],by simp [f9],by simp [f10],by simp,by simp [f54],by simp [f55],by simp⟩
     ·have h7':¬(last.length:Int)< 100:=by omega
      simp [hb3',f5,f9,f56,f11,hi0',hi0n,w3,hge,hge2,zak,hgb2,hvl,h7,h7',hrow,e5,w1]
      refine ⟨fun h=>by simp [zbK] at h,?_⟩
      exact ⟨G.length - (i+1),by omega,i+1,av',by omega,rfl,kp.trans hk5,hac5,by simp [f0],by simp [f5],by simp [f9],by simp [f10],by simp,by simp [f54],by simp [f55],by simp⟩
   ·obtain rfl:i=G.length:=by omega
    rw [List.take_length,hfl] at ac
    obtain ⟨a2,c2,rfl,hs2⟩:=ac.sv rfl
    simp [s13_0,f0,f5,f9,f10,f11,f54,f55,f56]
    refine (zjx hs2 (hsvs H2 (hk1s.trans (kp.mono hks.1))) (by omega) rfl).mono ?_
    rintro v H3 ⟨rfl,rfl⟩
    simp
end Go.Proofs.YtjgpbhodbgjggaaGreat.K
