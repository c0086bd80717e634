/- A part of the proof of PBatchAny, made small by a program of this work (mini.py). Conditions: none. -/
import Derived.Test.YtjgpbhodbgjggaaGreatRows
import Derived.Shelf.Strings.Repeat
import Derived.Shelf.Strings.BuilderK
import Derived.TacticsIn
import Derived.TacticsInMore
import Derived.LoopIn
import Derived.LoopNIn
import Derived.WalkKit
import Derived.RegionIn
import Derived.Shelf.Strings.OnBuilder
import Derived.Test.YtjgpbhodbgjggaaGreatD4
import Derived.Test.YtjgpbhodbgjggaaGreatD2
import Derived.Test.YtjgpbhodbgjggaaGreatD3
set_option linter.defProp false
set_option linter.unusedVariables false
set_option linter.unusedSimpArgs false
set_option maxRecDepth 100000
set_option maxHeartbeats 4000000
namespace Go.Proofs.YtjgpbhodbgjggaaGreat.K
open Go Go.Proofs Go.Shelf Go.RowKit
def za3:Go.Shelf.Ren:=⟨fun|105=>84|212=>120|99=>121|165=>98|166=>99|170=>122|169=>100|263=>158|264=>159|206=>160|240=>142|241=>143|276=>177|277=>178|n=>n,fun|9=>9|3=>3|4=>4|20=>20|0=>0|46=>127|109=>172|5=>5|72=>142|76=>146|51=>166|146=>212|53=>31|148=>214|70=>140|37=>95|75=>145|127=>196|164=>240|80=>82|n=>n,fun|n=>n⟩
theorem za9:Go.Proofs.Lays.n105 Go.Proofs.Tryz.prog za3:={
 mixed:=by kernel_rfl
 f99:=Go.Proofs.Tryz.func121.trans (congrArg some (by kernel_rfl))
 f105:=Go.Proofs.Tryz.func84.trans (congrArg some (by kernel_rfl))
 f165:=Go.Proofs.Tryz.func98.trans (congrArg some (by kernel_rfl))
 f166:=Go.Proofs.Tryz.func99.trans (congrArg some (by kernel_rfl))
 f169:=Go.Proofs.Tryz.func100.trans (congrArg some (by kernel_rfl))
 f170:=Go.Proofs.Tryz.func122.trans (congrArg some (by kernel_rfl))
 f206:=Go.Proofs.Tryz.func160.trans (congrArg some (by kernel_rfl))
 f212:=Go.Proofs.Tryz.func120.trans (congrArg some (by kernel_rfl))
 f240:=Go.Proofs.Tryz.func142.trans (congrArg some (by kernel_rfl))
 f241:=Go.Proofs.Tryz.func143.trans (congrArg some (by kernel_rfl))
 f263:=Go.Proofs.Tryz.func158.trans (congrArg some (by kernel_rfl))
 f264:=Go.Proofs.Tryz.func159.trans (congrArg some (by kernel_rfl))
 f276:=Go.Proofs.Tryz.func177.trans (congrArg some (by kernel_rfl))
 f277:=Go.Proofs.Tryz.func178.trans (congrArg some (by kernel_rfl))
 t0:=Go.Proofs.Tryz.underlying0
 a0:=Go.Proofs.Tryz.isAgg0
 z0:=Go.Proofs.Tryz.sizeOf0
 v0:=Go.Proofs.Tryz.zeroValue0
 t3:=Go.Proofs.Tryz.underlying3
 a3:=Go.Proofs.Tryz.isAgg3
 z3:=Go.Proofs.Tryz.sizeOf3
 v3:=Go.Proofs.Tryz.zeroValue3
 t4:=Go.Proofs.Tryz.underlying4
 a4:=Go.Proofs.Tryz.isAgg4
 z4:=Go.Proofs.Tryz.sizeOf4
 v4:=Go.Proofs.Tryz.zeroValue4
 t5:=Go.Proofs.Tryz.underlying5
 a5:=Go.Proofs.Tryz.isAgg5
 z5:=Go.Proofs.Tryz.sizeOf5
 v5:=Go.Proofs.Tryz.zeroValue5
 t9:=Go.Proofs.Tryz.underlying9
 a9:=Go.Proofs.Tryz.isAgg9
 z9:=Go.Proofs.Tryz.sizeOf9
 v9:=Go.Proofs.Tryz.zeroValue9
 t20:=Go.Proofs.Tryz.underlying20
 a20:=Go.Proofs.Tryz.isAgg20
 z20:=Go.Proofs.Tryz.sizeOf20
 v20:=Go.Proofs.Tryz.zeroValue20
 t37:=Go.Proofs.Tryz.underlying95
 a37:=Go.Proofs.Tryz.isAgg95
 z37:=Go.Proofs.Tryz.sizeOf95
 v37:=Go.Proofs.Tryz.zeroValue95
 t46:=Go.Proofs.Tryz.underlying127
 a46:=Go.Proofs.Tryz.isAgg127
 z46:=Go.Proofs.Tryz.sizeOf127
 v46:=Go.Proofs.Tryz.zeroValue127
 t51:=Go.Proofs.Tryz.underlying166
 a51:=Go.Proofs.Tryz.isAgg166
 z51:=Go.Proofs.Tryz.sizeOf166
 v51:=Go.Proofs.Tryz.zeroValue166
 t53:=Go.Proofs.Tryz.underlying31
 a53:=Go.Proofs.Tryz.isAgg31
 z53:=Go.Proofs.Tryz.sizeOf31
 v53:=Go.Proofs.Tryz.zeroValue31
 t70:=Go.Proofs.Tryz.underlying140
 a70:=Go.Proofs.Tryz.isAgg140
 z70:=Go.Proofs.Tryz.sizeOf140
 v70:=Go.Proofs.Tryz.zeroValue140
 t72:=Go.Proofs.Tryz.underlying142
 a72:=Go.Proofs.Tryz.isAgg142
 z72:=Go.Proofs.Tryz.sizeOf142
 v72:=Go.Proofs.Tryz.zeroValue142
 t75:=Go.Proofs.Tryz.underlying145
 a75:=Go.Proofs.Tryz.isAgg145
 z75:=Go.Proofs.Tryz.sizeOf145
 v75:=Go.Proofs.Tryz.zeroValue145
 t76:=Go.Proofs.Tryz.underlying146
 a76:=Go.Proofs.Tryz.isAgg146
 z76:=Go.Proofs.Tryz.sizeOf146
 v76:=Go.Proofs.Tryz.zeroValue146
 t109:=Go.Proofs.Tryz.underlying172
 a109:=Go.Proofs.Tryz.isAgg172
 z109:=Go.Proofs.Tryz.sizeOf172
 v109:=Go.Proofs.Tryz.zeroValue172
 t127:=Go.Proofs.Tryz.underlying196
 a127:=Go.Proofs.Tryz.isAgg196
 z127:=Go.Proofs.Tryz.sizeOf196
 v127:=Go.Proofs.Tryz.zeroValue196
 t146:=Go.Proofs.Tryz.underlying212
 a146:=Go.Proofs.Tryz.isAgg212
 z146:=Go.Proofs.Tryz.sizeOf212
 v146:=Go.Proofs.Tryz.zeroValue212
 t148:=Go.Proofs.Tryz.underlying214
 a148:=Go.Proofs.Tryz.isAgg214
 z148:=Go.Proofs.Tryz.sizeOf214
 v148:=Go.Proofs.Tryz.zeroValue214
 t164:=Go.Proofs.Tryz.underlying240
 a164:=Go.Proofs.Tryz.isAgg240
 z164:=Go.Proofs.Tryz.sizeOf240
 v164:=Go.Proofs.Tryz.zeroValue240}
theorem zeG:Builder.Extra Go.Proofs.Tryz.prog za3:={
 sizeBuilder:=by kernel_rfl
 liesBuilder:=by kernel_rfl
 t5:=za9.t5
 a5:=za9.a5
 z5:=za9.z5
 v5:=za9.v5
 infoByte:=by kernel_rfl
 cellsByte:=by kernel_rfl
 sizeByte:=by kernel_rfl
 neB5:=by decide}
theorem zos:za3.f 105=84:=by kernel_rfl
def zgf:List Value→Heap→Option (Value×Heap)
 | [.string s,.int .i64 n],H=>if 0≤n∧(s.size:Int)*n≤1000000000∧n≤1000000000 then some (.string ⟨(Lib.repeatL s.data.toList n.toNat).toArray⟩,H) else none
 |_,_=>none
theorem zqx:zb1 Go.Proofs.Tryz.prog 84 zgf:=by
 refine ⟨by kernel_rfl,?_⟩
 intro B w0 args H v H' h ρ w cargs hrel hv
 unfold zgf at h
 split at h
 ·rename_i s n
  split at h
  ·rename_i hc
   obtain ⟨c,rfl⟩:∃c:Nat,n=(c:Int):=⟨n.toNat,by omega⟩
   simp only [Option.some.injEq,Prod.mk.injEq] at h
   obtain ⟨rfl,rfl⟩:=h
   obtain ⟨y,hy,h1⟩:=hv.get (i:=0) rfl
   obtain ⟨z,hz,h2⟩:=hv.get (i:=1) rfl
   obtain ⟨hl,-⟩:=hv
   obtain ⟨y',z',rfl⟩:∃y' z',cargs= [y',z']:=by
    match cargs,hl with
    | [a,b],_=>exact ⟨a,b,rfl⟩
   simp at hy hz
   subst hy;subst hz
   cases h1;cases h2
   have hcn:s.size*c≤1000000000:=by
    have:=hc.2.1
    rw [←Int.natCast_mul] at this
    omega
   have hr:=Any.strings_Repeat za9 zeG s c w (by omega) (by omega)
   rw [zos] at hr
   refine hr.mono fun e w' ⟨he,hb⟩=>⟨ρ,_,he,List.prefix_refl _,?_,hrel.world ⟨hb.os,hb.tape,hb.output,hb.size,fun k hk=>hb.block k (hrel.base k hk)⟩ hb.block⟩
   rw [Int.toNat_natCast]
   constructor
  ·cases h
 ·cases h
def zjy:List UInt8→List (Int×Int×Int)→List UInt8
 |t,[]=>t
 |t,s::l=>t.take s.1.toNat++zjy ((t.drop s.1.toNat).drop s.2.1.toNat) l
def sq3c (l:List (Int×Int×Int)):List Value:=l.flatMap fun s=> [.int .i64 s.1,.int .i64 s.2.1,.int .i64 s.2.2]
def mN (n:Nat):Value→Nat
 | .int _ x=>n - x.toNat
 |_=>0
theorem zk9 {T e:TypeId} {B b:Nat} {bs:List Value} {w:World} (h:Lib.IsBuilderF T e B b bs w) (o:Obj):Lib.IsBuilderF T e B b bs (w.alloc o):=by
 have key:∀p,Lib.BuilderAtF T e B b p bs w→Lib.BuilderAtF T e B b p bs (w.alloc o):=by
  rintro p ⟨h1,v,h2,h3,h4⟩
  have keep:∀{g:Nat} {x:Obj},w.heap[g]? =some x→(w.alloc o).heap[g]? =some x:=fun {g x} hg=>(Below.heap_alloc _ _ _ (Array.getElem?_eq_some_iff.1 hg).1).trans hg
  refine ⟨h1,v,keep h2,⟨h3.1,?_⟩,h4⟩
  rcases h3.2 with h5|⟨g,cap,cur,fz,a1,a2,a3,a4⟩
  ·exact .inl h5
  ·exact .inr ⟨g,cap,cur,fz,a1,a2,keep a3,a4⟩
 exact h.imp (key _) (key _)
theorem zgg (t:ByteArray) (m:Nat) (hm:t.size=m) (x:Int):(t.extract (min (max x 0) (m:Int)).toNat m).data.toList=t.data.toList.drop x.toNat:=by
 subst hm
 rw [Lib.extract_data]
 obtain ⟨l,hl⟩:∃l,l=t.data.toList:=⟨_,rfl⟩
 rw [←hl]
 have hsz:t.size=l.length:=by rw [hl];exact Lib.size_eq t
 rw [hsz,List.take_of_length_le (by simp)]
 rcases Nat.lt_or_ge x.toNat l.length with h|h
 ·congr 1;omega
 ·rw [List.drop_eq_nil_of_le (by omega),List.drop_eq_nil_of_le (by omega)]
theorem zmR (t:ByteArray) (x:Int):(t.extract 0 (min (max x 0) (t.size:Int)).toNat).data.toList=t.data.toList.take x.toNat:=by
 rw [Lib.extract_data]
 obtain ⟨l,hl⟩:∃l,l=t.data.toList:=⟨_,rfl⟩
 rw [←hl]
 have hsz:t.size=l.length:=by rw [hl];exact Lib.size_eq t
 rw [hsz,List.drop_zero,Nat.sub_zero]
 rcases Nat.lt_or_ge x.toNat l.length with h|h
 ·congr 1;omega
 ·rw [List.take_of_length_le (by omega),List.take_of_length_le (by omega)]
theorem zrM (text:ByteArray) (hts:text.size≤1000000) (ss:List (Int×Int×Int)) (hn:ss.length≤1000000) (a:Option Addr) (k:Nat) (W:World)
  (hsv:ss= []∨∃b o,a=some ⟨b,o,none⟩∧b< W.heap.size∧∀(j:Nat) v,(sq3c ss)[j]? =some v→W.cell? ⟨b,o+j,none⟩=some v):
  Calls Go.Proofs.Tryz.prog 77 #[.string text,.slice a ss.length k] W fun e w'=>e= .returned (.string ⟨(zjy text.data.toList ss).toArray⟩)∧Below W.heap.size W w':=by
 have mixed:Go.Proofs.Tryz.prog.follows .mixedOrders=true:=by kernel_rfl
 have t108:=Go.Proofs.Tryz.underlying108;have a108:=Go.Proofs.Tryz.isAgg108;have z108:=Go.Proofs.Tryz.sizeOf108;have v108:=Go.Proofs.Tryz.zeroValue108
 have t155:=Go.Proofs.Tryz.underlying155;have a155:=Go.Proofs.Tryz.isAgg155;have z155:=Go.Proofs.Tryz.sizeOf155;have v155:=Go.Proofs.Tryz.zeroValue155
 have t142:=Go.Proofs.Tryz.underlying142;have a142:=Go.Proofs.Tryz.isAgg142;have z142:=Go.Proofs.Tryz.sizeOf142;have v142:=Go.Proofs.Tryz.zeroValue142
 have t3:=Go.Proofs.Tryz.underlying3;have a3:=Go.Proofs.Tryz.isAgg3;have z3:=Go.Proofs.Tryz.sizeOf3;have v3:=Go.Proofs.Tryz.zeroValue3
 have t4:=Go.Proofs.Tryz.underlying4;have a4:=Go.Proofs.Tryz.isAgg4;have z4:=Go.Proofs.Tryz.sizeOf4;have v4:=Go.Proofs.Tryz.zeroValue4
 have t9:=Go.Proofs.Tryz.underlying9;have a9:=Go.Proofs.Tryz.isAgg9;have z9:=Go.Proofs.Tryz.sizeOf9;have v9:=Go.Proofs.Tryz.zeroValue9
 have u108:=run_underlying t108;have u155:=run_underlying t155;have u142:=run_underlying t142;have u3:=run_underlying t3;have u4:=run_underlying t4;have u9:=run_underlying t9
 have hnt:Go.Proofs.Tryz.f77.ntmps=40:=by kernel_rfl
 have e99:∀args w,(callFunc 99 args).run Go.Proofs.Tryz.prog w= .ok (.enter 99 args) w:=enters_of Go.Proofs.Tryz.func99 (by kernel_rfl) rfl
 have e100:∀args w,(callFunc 100 args).run Go.Proofs.Tryz.prog w= .ok (.enter 100 args) w:=enters_of Go.Proofs.Tryz.func100 (by kernel_rfl) rfl
 go_enter Go.Proofs.Tryz.func77,hnt
 go_wp2
 have b0:Below W.heap.size W (W.alloc (.cells #[.pointer none,.slice none 0 0] 142)):=(Below.refl _ W).alloc (Nat.le_refl _) _
 have h00:Lib.IsBuilderF (za3.t 72) (za3.t 5) W.heap.size W.heap.size (Lib.byteCells []) (W.alloc (.cells #[.pointer none,.slice none 0 0] 142)):=by
  exact .inl ⟨Nat.le_refl _,_,heap_alloc_new W _,⟨rfl,.inl ⟨rfl,rfl⟩⟩,by simp [Value.ownBlock]⟩
 go_loopw [0,11] (fun s0 s11 wx=>∃(i:Nat) (t:ByteArray) (dn:List UInt8),i≤ss.length∧s11= .int .i64 i∧s0= .string t∧zjy text.data.toList ss=dn++zjy t.data.toList (ss.drop i)∧dn.length+t.size≤text.size∧Lib.IsBuilderF (za3.t 72) (za3.t 5) W.heap.size W.heap.size (Lib.byteCells dn) wx∧Below W.heap.size W wx)
  (fun s0 s11 wx=>mN ss.length s11)
 case atStart=>exact ⟨0,text,[],by omega,rfl,rfl,rfl,by simp,h00,b0⟩
 case round=>
  obtain ⟨i,t,dn,hi,rfl,rfl,hlit,hsz,hB,hb⟩:=hrel
  by_cases hin:i=ss.length
  ·subst hin
   have cW:=Any.Builder_WriteString_f {za9 with} zeG W.heap.size W.heap.size (Lib.byteCells dn) t wr hB (by rw [Lib.byteCells_length];omega) hb.size
   go_wp2_with (go_at_fn 99;go_fit cW;rintro e W2 ⟨rfl,h2,b2⟩)
   rw [Lib.strCells_eq,←Lib.byteCells_append] at h2
   have cS:=Any.Builder_String_any_f {za9 with} zeG W.heap.size W.heap.size (dn++t.data.toList) W2 (.inr h2) (Nat.le_trans hb.size b2.size)
   go_wp2_with (go_at_fn 100;go_fit cS;rintro e W3 ⟨rfl,h3,b3⟩)
   go_ret
   refine ⟨?_,hb.trans (b2.trans b3)⟩
   rw [hlit,List.drop_length];rfl
  ·rcases hsv with rfl|⟨b,o,rfl,hbl,hcell⟩
   ·simp at hi;simp at hin;omega
   have hlt:i< ss.length:=by omega
   obtain ⟨x,hx⟩:∃x,ss[i]? =some x:=⟨ss[i],List.getElem?_eq_getElem hlt⟩
   obtain ⟨x1,x2,x3⟩:=x
   have hcl:∀j,j< 3→wr.cell? ⟨b,o+i*3+j,none⟩=([Value.int .i64 x1,.int .i64 x2,.int .i64 x3][j]?):=by
    intro j hj
    have h1:(sq3c ss)[i*3+j]? = [Value.int .i64 x1,.int .i64 x2,.int .i64 x3][j]? :=zdr (z:=3) (fun _=>rfl) hx hj
    obtain ⟨v,hv⟩:∃v,[Value.int .i64 x1,.int .i64 x2,.int .i64 x3][j]? =some v:=⟨_,List.getElem?_eq_getElem (by simpa using hj)⟩
    rw [hv] at h1⊢
    have h2:=hcell _ _ h1
    rw [Nat.add_assoc]
    exact (hb.cell hbl).trans h2
   have c0:=hcl 0 (by omega);have c1:=hcl 1 (by omega);have c2:=hcl 2 (by omega)
   simp only [List.getElem?_cons_zero,List.getElem?_cons_succ,Nat.add_zero] at c0 c1 c2
   clear hcl hcell
   obtain ⟨w1,hw1⟩:∃w1,w1=wr.alloc (.cells #[.int .i64 x1,.int .i64 x2,.int .i64 x3] 155):=⟨_,rfl⟩
   have hnw:w1.heap[wr.heap.size]? =some (.cells #[.int .i64 x1,.int .i64 x2,.int .i64 x3] 155):=by rw [hw1];exact heap_alloc_new wr _
   have cW:=Any.Builder_WriteString_k {za9 with} zeG W.heap.size W.heap.size (Lib.byteCells dn) (t.extract 0 (min (max x1 0) (t.size:Int)).toNat) w1 (by rw [hw1];exact zk9 hB _) (by rw [Lib.byteCells_length,Lib.size_eq,Lib.extract_data];simp;omega) (by rw [hw1,World.size_alloc];exact Nat.le_succ_of_le hb.size)
   have hbw:Below W.heap.size W w1:=by rw [hw1];exact hb.alloc hb.size _
   have hne:wr.heap.size≠W.heap.size:=by
    intro h
    obtain ⟨g,hg⟩:∃g:Obj,wr.heap[W.heap.size]? =some g:=by
     rcases hB with h|h<;>obtain ⟨_,v,h2,_⟩:=h<;>exact ⟨_,h2⟩
    have:=(Array.getElem?_eq_some_iff.1 hg).1
    omega
   have hk2:some wr.heap.size≠some W.heap.size:=fun e=>hne (Option.some.inj e)
   have hk3:∀c fz,Obj.cells #[.int .i64 x1,.int .i64 x2,.int .i64 x3] 155≠ .cells c (za3.t 5) fz:=by
    intro c fz h
    injection h with _ h1 _
    exact absurd h1 (by decide)
   rw [hw1] at cW hnw
   go_wp2_with (go_at_fn 99;go_fit cW;(rintro e W2 ⟨rfl,h2,b2,k2⟩;have hl2:W2.heap[wr.heap.size]? =some (.cells #[.int .i64 x1,.int .i64 x2,.int .i64 x3] 155):=k2 _ _ hnw hk2 hk3;have d1:W2.cell? ⟨wr.heap.size,1,none⟩=some (.int .i64 x2):=by simp [World.cell?,hl2]))
   have hA:(t.extract (min (max x1 0) (t.size:Int)).toNat t.size).size=t.size - (min (max x1 0) (t.size:Int)).toNat:=by
    rw [Lib.size_eq,zgg t _ rfl,List.length_drop,←Lib.size_eq]
    omega
   have hu:((t.extract (min (max x1 0) (t.size:Int)).toNat t.size).extract (min (max x2 0) ((t.size - (min (max x1 0) (t.size:Int)).toNat:Nat):Int)).toNat (t.size - (min (max x1 0) (t.size:Int)).toNat)).data.toList=(t.data.toList.drop x1.toNat).drop x2.toNat:=by
    rw [zgg _ _ hA,zgg t _ rfl]
   rw [Lib.strCells_eq,←Lib.byteCells_append,zmR] at h2
   refine ⟨⟨i+1,_,dn++t.data.toList.take x1.toNat,by omega,rfl,rfl,?_,?_,.inr h2,hbw.trans (by rw [hw1];exact b2)⟩,by simp only [mN];omega⟩
   ·rw [hlit,hu,List.drop_eq_getElem_cons hlt,show ss[i]=(x1,x2,x3) from Option.some.inj ((List.getElem?_eq_getElem hlt).symm.trans hx)]
    simp only [zjy,List.append_assoc]
   ·rw [Lib.size_eq,hu]
    have:=Lib.size_eq t
    simp only [List.length_append,List.length_take,List.length_drop]
    omega
def bkM:Value→Nat
 | .int _ x=>(x+1).toNat
 |_=>0
theorem zmS:zf1 Go.Proofs.Tryz.prog 255:=by
 refine ⟨by kernel_rfl,?_⟩
 intro l c n J Jx W hn hsl hJ hround
 obtain ⟨a0,k0,hc0⟩:=hsl
 have mixed:Go.Proofs.Tryz.prog.follows .mixedOrders=true:=by kernel_rfl
 have t95:=Go.Proofs.Tryz.underlying95;have a95:=Go.Proofs.Tryz.isAgg95;have z95:=Go.Proofs.Tryz.sizeOf95;have v95:=Go.Proofs.Tryz.zeroValue95
 have t3:=Go.Proofs.Tryz.underlying3;have a3:=Go.Proofs.Tryz.isAgg3;have z3:=Go.Proofs.Tryz.sizeOf3;have v3:=Go.Proofs.Tryz.zeroValue3
 have t5:=Go.Proofs.Tryz.underlying5;have a5:=Go.Proofs.Tryz.isAgg5;have z5:=Go.Proofs.Tryz.sizeOf5;have v5:=Go.Proofs.Tryz.zeroValue5
 have t4:=Go.Proofs.Tryz.underlying4;have a4:=Go.Proofs.Tryz.isAgg4;have z4:=Go.Proofs.Tryz.sizeOf4;have v4:=Go.Proofs.Tryz.zeroValue4
 have u95:=run_underlying t95;have u3:=run_underlying t3;have u5:=run_underlying t5;have u4:=run_underlying t4
 have hnt:Go.Proofs.Tryz.f255.ntmps=19:=by kernel_rfl
 refine callsIn_of_wp Go.Proofs.Tryz.func255 rfl trivial ?_ rfl
 simp only [hnt,List.size_toArray,List.length_cons,List.length_nil,Nat.reduceAdd,Nat.reduceSub,Array.replicate_succ,Array.replicate_zero,List.push_toArray,List.append_toArray,List.nil_append,List.cons_append]
 gi_wp2
 gi_loopw [3] (fun s wx=>∃i:Nat,i≤n∧((i=0∧s= .int .i64 (-1))∨∃j:Nat,i=j+1∧s= .int .i64 j)∧J i wx) (fun s wx=>bkM s)
 case atStart=>
  refine ⟨n,Nat.le_refl _,?_,hJ⟩
  cases n with
  |zero=>exact .inl ⟨rfl,rfl⟩
  |succ m=>refine .inr ⟨m,rfl,?_⟩;congr 1;omega
 case round=>
  obtain ⟨i,hi,hs,hJi⟩:=hrel
  rcases hs with ⟨rfl,rfl⟩|⟨j,rfl,rfl⟩
  ·gi_wp2
   go_end0
   exact ⟨⟨_,rfl⟩,.inl hJi⟩
  ·obtain ⟨a1,n',k1,x,hc1,hin,hsp,hx,fn,tmps,assign,body,hy,hR⟩:=hround j _ (by omega) hJi
   obtain ⟨ab,ao,sp⟩:=a1
   simp only at hsp
   subst hsp
   gi_wp2
   refine hR.mono ?_
   rintro e W3 (⟨rfl,hJ3⟩|⟨rfl,hJx3⟩)
   ·gi_wp2
    go_roundw
    case rel=>
     refine ⟨j,by omega,?_,hJ3⟩
     cases j with
     |zero=>exact .inl ⟨rfl,by congr 1⟩
     |succ m=>refine .inr ⟨m,rfl,?_⟩;congr 1;omega
    case measure=>simp only [bkM];omega
   ·gi_wp2
    refine bodyPost_ret (results_none rfl _ _ _) rfl ?_
    exact ⟨⟨_,rfl⟩,.inr hJx3⟩
def sq3:List Value→Option (List (Int×Int×Int))
 | []=>some []
 | .int .i64 a:: .int .i64 b:: .int .i64 c::l=>(sq3 l).map ((a,b,c)::·)
 |_=>none
theorem sq3_ok:∀(cs:List Value) {ss:List (Int×Int×Int)},sq3 cs=some ss→cs=sq3c ss
 | [],ss,h=>by simp [sq3] at h;subst h;rfl
 | .int .i64 a:: .int .i64 b:: .int .i64 c::l,ss,h=>by
   simp only [sq3,Option.map_eq_some_iff] at h
   obtain ⟨s2,h2,rfl⟩:=h
   rw [sq3_ok l h2];rfl
theorem sq3c_len (ss:List (Int×Int×Int)):(sq3c ss).length=ss.length*3:=zdq (z:=3) (fun _=>rfl) ss
def zla:List Value→Heap→Option (Value×Heap)
 | [.string text,.slice a n c],H=>if text.size≤1000000∧n≤1000000 then (zaJ H 155 3 n a).bind fun cs=>(sq3 cs).map fun ss=>(.string ⟨(zjy text.data.toList ss).toArray⟩,H) else none
 |_,_=>none
theorem zqy:zb1 Go.Proofs.Tryz.prog 77 zla:=by
 refine ⟨by kernel_rfl,?_⟩
 intro B w0 args H v H' h ρ w cargs hrel hv
 unfold zla at h
 split at h
 ·rename_i text a n c
  split at h
  ·rename_i hc
   simp only [Option.bind_eq_some_iff,Option.map_eq_some_iff,Prod.mk.injEq] at h
   obtain ⟨cs,hcs,ss,hss,rfl,rfl⟩:=h
   obtain rfl:=sq3_ok cs hss
   obtain ⟨y,hy,h1⟩:=hv.get (i:=0) rfl
   obtain ⟨z,hz,h2⟩:=hv.get (i:=1) rfl
   obtain ⟨hl,-⟩:=hv
   obtain ⟨y',z',rfl⟩:∃y' z',cargs= [y',z']:=by
    match cargs,hl with
    | [a,b],_=>exact ⟨a,b,rfl⟩
   simp at hy hz
   subst hy;subst hz
   cases h1
   obtain ⟨hl1,a',c',rfl,l',hvl,hl2,ho,hcell⟩:=zem hrel h2 hcs
   have hnl:ss.length=n:=by rw [sq3c_len] at hl1;omega
   have hgnd:∀(i:Nat) v,(sq3c ss)[i]? =some v→∃k,v= .int .i64 k:=by
    intro i v hv
    have:=List.mem_of_getElem? hv
    simp only [sq3c,List.mem_flatMap,List.mem_cons,List.not_mem_nil,or_false] at this
    obtain ⟨s,_,rfl|rfl|rfl⟩:=this<;>exact ⟨_,rfl⟩
   have hl':∀(j:Nat) v,(sq3c ss)[j]? =some v→l'[j]? =some v:=by
    intro j v hj
    obtain ⟨y,hy,hvy⟩:=hvl.get hj
    obtain ⟨k,rfl⟩:=hgnd j v hj
    cases hvy
    exact hy
   have hw:=zrM text hc.1 ss (by omega) a' c' w (by
    rcases hcell with ⟨_,h0⟩|⟨b',rfl,hcell⟩
    ·exact .inl (List.eq_nil_of_length_eq_zero (by omega))
    ·by_cases h0:ss= []
     ·exact .inl h0
     ·have hpos:0< (sq3c ss).length:=by
       rw [sq3c_len]
       have:0< ss.length:=by cases ss with|nil=>exact absurd rfl h0|cons=>simp
       omega
      have c0:=hcell 0 _ (hl' 0 _ (List.getElem?_eq_getElem hpos))
      obtain ⟨hsp,arr,tw,fr,hh,_⟩:=zk4 c0
      obtain ⟨bb,oo,sp⟩:=b'
      cases sp with
      |some s=>cases hsp
      |none=>
       refine .inr ⟨bb,oo,rfl,(Array.getElem?_eq_some_iff.1 hh).1,fun j v hj=>?_⟩
       have:=hcell j v (hl' j v hj)
       rwa [Addr.add_lit] at this)
   rw [hnl] at hw
   refine hw.mono fun e w' ⟨he,hb⟩=>⟨ρ,_,he,List.prefix_refl _,.string _,hrel.world ⟨hb.os,hb.tape,hb.output,hb.size,fun k hk=>hb.block k (hrel.base k hk)⟩ hb.block⟩
  ·cases h
 ·cases h
def R0:FuncId→Option (List Value→Heap→Option (Value×Heap)):=fun f=>if f=84 then some zgf else if f=77 then some zla else none
theorem zmT:∀f p,R0 f=some p→zb1 Go.Proofs.Tryz.prog f p:=fun f p h=>by
 unfold R0 at h
 split at h
 ·rename_i hf
  cases h;subst hf;exact zqx
 ·split at h
  ·rename_i hf
   cases h;subst hf;exact zqy
  ·cases h
def Bk:FuncId→Bool:=fun f=>f==255
theorem zmU:∀f,Bk f=true→zf1 Go.Proofs.Tryz.prog f:=fun f h=>by
 have:=eq_of_beq h
 subst this
 exact zmS
end Go.Proofs.YtjgpbhodbgjggaaGreat.K
namespace Go.Proofs.YtjgpbhodbgjggaaGreat.K
open Go Go.Proofs
def nwV (i:Nat):List Value:=List.replicate i (.int .i64 (-1))++List.replicate (1024 - i) (.int .i64 0)
theorem zot {i:Nat} (h:i≤1024):(nwV i).length=1024:=by simp [nwV];omega
theorem zou {i:Nat} (h:i< 1024):(nwV i).set i (.int .i64 (-1))=nwV (i+1):=by
 unfold nwV
 have e:1024 - i=(1024 - (i+1))+1:=by omega
 rw [e,List.replicate_succ,List.set_append_right _ _ (by simp),List.length_replicate,Nat.sub_self]
 simp [List.replicate_succ']
theorem zeros1 (v:Value) (n:Nat):zeros [v] n=List.replicate n v:=by simp [zeros]
def nwB (t:Bytes) (x y z:Value):Blk:= .cells [.string (ofL t),x,y,z] 199 true
structure NxI (H0:Heap) (F:Nat) (t:Bytes) (d:Nat) (e:Fe) (H:Heap) (i:Nat):Prop where
 hi:i≤1024
 hd:d=1024 - i
 nx:H.next=F+2
 kp:Kp F H0 H
 f:H.get F=nwB t (.slice (some ⟨F+1,0,none⟩) 1024 1024) (.slice none 0 0) (.slice none 0 0)
 h:H.get (F+1)= .cells (nwV i) 3 true
 e3:e 3= .pointer (some ⟨F,0,none⟩)
 e20:e 20= .int .i64 1024
 e21:e 21= .int .i64 i
def nwH (H:Heap) (t:Bytes):Heap:=(((H.push (nwB t (.slice (some ⟨H.next+1,0,none⟩) 1024 1024) (.slice (some ⟨H.next+2,0,none⟩) t.length t.length) (.slice (some ⟨H.next+3,0,none⟩) t.length t.length))).push (.cells (List.replicate 1024 (.int .i64 (-1))) 3 true)).push (.cells (List.replicate t.length (.int .i64 0)) 3 true)).push (.cells (List.replicate t.length (.bool false)) 4 true)
theorem zrN {S:Sys} (hR:S.R 104=none) (hF:S.F 104=some k104) {H:Heap} {t:Bytes} (hl:t.length≤2000):Wf S 104 [.string (ofL t)] H fun v H'=>v= .pointer (some ⟨H.next,0,none⟩)∧H'=nwH H t:=by
 refine w104 hR hF _ ?_
 obtain ⟨F,hFn⟩:∃F,F=H.next:=⟨_,rfl⟩
 have hmn:min (t.length:Int) 2000=t.length:=by omega
 have hup:∀{K:Kv} {H:Heap},run S (.slS (.c (.string (ofL t))) none (some (.c (.int .i64 t.length)))) [] H K=K (.string (ofL t)) H:=fun {K} {H}=>by
  rw [zdt,if_pos ⟨by omega,by omega⟩];simp
 have hz1:zeros [.int .i64 0] 1024=nwV 0:=by rw [zeros1];rfl
 have hz2:zeros [.int .i64 0] t.length=List.replicate t.length (.int .i64 0):=zeros1 _ _
 have hz3:zeros [.bool false] t.length=List.replicate t.length (.bool false):=zeros1 _ _
 obtain ⟨H1,hH1⟩:∃H1,H1=H.push (nwB t (.slice none 0 0) (.slice none 0 0) (.slice none 0 0)):=⟨_,rfl⟩
 have n1:H1.next=F+1:=by rw [hH1,hFn];simp
 have g1:H1.get F=nwB t (.slice none 0 0) (.slice none 0 0) (.slice none 0 0):=by rw [hH1,hFn];exact zaf
 obtain ⟨H2,hH2⟩:∃H2,H2=H1.push (.cells (nwV 0) 3 true):=⟨_,rfl⟩
 have n2:H2.next=F+2:=by rw [hH2];simp [n1]
 have g2:H2.get F=nwB t (.slice none 0 0) (.slice none 0 0) (.slice none 0 0):=by rw [hH2,zae (by omega)];exact g1
 have g2h:H2.get (F+1)= .cells (nwV 0) 3 true:=by rw [hH2,←n1];exact zaf
 obtain ⟨H3,hH3⟩:∃H3,H3=H2.put F (nwB t (.slice (some ⟨F+1,0,none⟩) 1024 1024) (.slice none 0 0) (.slice none 0 0)):=⟨_,rfl⟩
 have n3:H3.next=F+2:=by rw [hH3,next_put];exact n2
 have g3:H3.get F=nwB t (.slice (some ⟨F+1,0,none⟩) 1024 1024) (.slice none 0 0) (.slice none 0 0):=by rw [hH3];exact zad (by omega)
 have g3h:H3.get (F+1)= .cells (nwV 0) 3 true:=by rw [hH3,zaa (by omega)];exact g2h
 have s3:kSt H2 (.pointer (some ⟨F,1,none⟩)) (.slice (some ⟨F+1,0,none⟩) 1024 1024)=some H3:=by
  rw [hH3];unfold nwB at*;simp [kSt,g2,zaB]
 have k3:Kp F H H3:=⟨by omega,fun k hk=>by rw [hH3,zaa (by omega),hH2,zae (by omega),hH1,zae (by omega)]⟩
 have e1:Blk.cells [.string (ofL t),.slice none 0 0,.slice none 0 0,.slice none 0 0] 199 true=nwB t (.slice none 0 0) (.slice none 0 0) (.slice none 0 0):=rfl
 have c1:(t.length:Int)≤9223372036854775807:=by omega
 have c2:8*(t.length:Int)≤281474976710656:=by omega
 have c3:(t.length:Int)≤281474976710656:=by omega
 have g3':=g3
 unfold nwB at g3'
 simp [s104,zaj,hmn,hup,zaC,zaQ,zaw,cellsL,wr,e1,←hFn,←hH1,zcB,hz1,←hH2,n1,zac,s3,g3']
 refine l104_0 S (fun d e H'=>∃i,NxI H F t d e H' i) 1024 ⟨0,by omega,rfl,n3,k3,g3,g3h,by simp,by simp,by simp⟩ ?_
 rintro d e H' ⟨i,hi,rfl,nx,kp,f,h,e3,e20,e21⟩
 have f':=f
 unfold nwB at f'
 by_cases hlt:i< 1024
 ·have hlt':(i:Int)< 1024:=by omega
  have hln:=zot hi
  obtain ⟨H4,hH4⟩:∃H4,H4=H'.put (F+1) (.cells (nwV (i+1)) 3 true):=⟨_,rfl⟩
  have s4:kSt H' (.pointer (some ⟨F+1,i,none⟩)) (.int .i64 (-1))=some H4:=by
   rw [hH4,←zou hlt]
   simp [kSt,h,zaB,hln,hlt]
  have w1:IntKind.i64.wrap ((i:Int)+1)=((i+1:Nat):Int):=by rw [wi (by omega) (by omega)];omega
  simp [s104_0,e3,e20,e21,hlt,hlt',zac,f',s4,w1]
  exact ⟨1024 - (i+1),by omega,i+1,by omega,rfl,by rw [hH4,next_put];exact nx,⟨by rw [hH4,next_put];exact kp.1,fun k hk=>by rw [hH4,zaa (by omega)];exact kp.2 k hk⟩,by rw [hH4,zaa (by omega)];exact f,by rw [hH4];exact zad (by omega),by simp [e3],by simp [e20],by simp⟩
 ·obtain rfl:i=1024:=by omega
  obtain ⟨H5,hH5⟩:∃H5,H5=H'.push (.cells (List.replicate t.length (.int .i64 0)) 3 true):=⟨_,rfl⟩
  have n5:H5.next=F+3:=by rw [hH5];simp [nx]
  have f5:H5.get F=nwB t (.slice (some ⟨F+1,0,none⟩) 1024 1024) (.slice none 0 0) (.slice none 0 0):=by rw [hH5,zae (by omega)];exact f
  obtain ⟨H6,hH6⟩:∃H6,H6=H5.put F (nwB t (.slice (some ⟨F+1,0,none⟩) 1024 1024) (.slice (some ⟨F+2,0,none⟩) t.length t.length) (.slice none 0 0)):=⟨_,rfl⟩
  have n6:H6.next=F+3:=by rw [hH6,next_put];exact n5
  have s6:kSt H5 (.pointer (some ⟨F,2,none⟩)) (.slice (some ⟨F+2,0,none⟩) t.length t.length)=some H6:=by
   rw [hH6];unfold nwB at*;simp [kSt,f5,zaB]
  have f6:H6.get F=nwB t (.slice (some ⟨F+1,0,none⟩) 1024 1024) (.slice (some ⟨F+2,0,none⟩) t.length t.length) (.slice none 0 0):=by rw [hH6];exact zad (by omega)
  obtain ⟨H7,hH7⟩:∃H7,H7=H6.push (.cells (List.replicate t.length (.bool false)) 4 true):=⟨_,rfl⟩
  have n7:H7.next=F+4:=by rw [hH7];simp [n6]
  have f7:H7.get F=nwB t (.slice (some ⟨F+1,0,none⟩) 1024 1024) (.slice (some ⟨F+2,0,none⟩) t.length t.length) (.slice none 0 0):=by rw [hH7,zae (by omega)];exact f6
  obtain ⟨H8,hH8⟩:∃H8,H8=H7.put F (nwB t (.slice (some ⟨F+1,0,none⟩) 1024 1024) (.slice (some ⟨F+2,0,none⟩) t.length t.length) (.slice (some ⟨F+3,0,none⟩) t.length t.length)):=⟨_,rfl⟩
  have s8:kSt H7 (.pointer (some ⟨F,3,none⟩)) (.slice (some ⟨F+3,0,none⟩) t.length t.length)=some H8:=by
   rw [hH8];unfold nwB at*;simp [kSt,f7,zaB]
  have ckS:∀(l:Bytes) (H:Heap) (P:Prop),ck (some (Value.string (ofL l),H)) (Value.string (ofL l)) P=P:=fun l H P=>by
   show (veq _ _=true∧P)=P
   have:veq (Value.string (ofL l)) (Value.string (ofL l))=true:=by simp [veq,veq1]
   rw [this];simp
  have f5':=f5
  unfold nwB at f5'
  have f7':=f7
  unfold nwB at f7'
  have f6':=f6
  unfold nwB at f6'
  simp [s104_0,e3,e20,e21,zac,f',zaj,zcB,c1,c2,c3,hz2,hz3,nx,←hH5,kop,f5',ckS]
  simp [s6,n6,←hH7,kop,f7',f6',ckS,s8]
  have hfull:nwV 1024=List.replicate 1024 (.int .i64 (-1)):=by unfold nwV;rw [Nat.sub_self];simp
  rw [hfull] at h
  have hN:(nwH H t).next=F+4:=by unfold nwH;simp [hFn]
  refine zmH (by rw [hN,hH8,next_put];exact n7) fun j hj=>?_
  have hj:j< F+4:=by rw [hH8,next_put,n7] at hj;exact hj
  unfold nwH
  rw [←hFn]
  have hcase:j< F∨j=F∨j=F+1∨j=F+2∨j=F+3:=by omega
  rcases hcase with hc|rfl|rfl|rfl|rfl
  ·rw [hH8,zaa (by omega),hH7,zae (by omega),hH6,zaa (by omega),hH5,zae (by omega),kp.2 j hc,zae (by simp;omega),zae (by simp;omega),zae (by simp;omega),zae (by omega)]
  ·rw [hH8,zad (by omega)]
   simp only [hFn]
   rw [zae (by simp<;>omega),zae (by simp<;>omega),zae (by simp),zaf]
  ·rw [hH8,zaa (by omega),hH7,zae (by omega),hH6,zaa (by omega),hH5,zae (by omega),h]
   simp [hFn]
  ·rw [hH8,zaa (by omega),hH7,zae (by omega),hH6,zaa (by omega),hH5,←nx,zaf]
   simp [hFn,nx]
  ·rw [hH8,zaa (by omega),hH7,←n6,zaf]
   simp [hFn,n6]
def zlb:List Value→Heap→Option (Value×Heap)
 | [.string s],H=>if s.data.toList.length≤2000 then some (.pointer (some ⟨H.next,0,none⟩),nwH H s.data.toList) else none
 |_,_=>none
def S0:Sys:=⟨F,M,R0,Bk⟩
theorem zrO:zfl Go.Proofs.Tryz.prog S0:=⟨zqw,by kernel_rfl,zqv,zmT,zmU⟩
theorem zqz:zb1 Go.Proofs.Tryz.prog 104 zlb:=by
 refine zjp zrO (by kernel_rfl) fun args H v H' h=>?_
 unfold zlb at h
 split at h
 ·rename_i s
  split at h
  ·rename_i hc
   cases h
   have hw:=zrN (S:=S0) rfl rfl (H:=H) hc
   rw [zey] at hw
   exact hw.mono fun v H' ⟨h1,h2⟩=>⟨h1,h2⟩
  ·cases h
 ·cases h
def R1:FuncId→Option (List Value→Heap→Option (Value×Heap)):=fun f=>if f=104 then some zlb else R0 f
theorem zrP:∀f p,R1 f=some p→zb1 Go.Proofs.Tryz.prog f p:=fun f p h=>by
 unfold R1 at h
 split at h
 ·rename_i hf
  cases h;subst hf;exact zqz
 ·exact zmT f p h
def S1:Sys:=⟨F,M,R1,Bk⟩
def zqA (args:List Value) (T:HTr):Option (Value×HTr):=(zgf args []).map fun p=>(p.1,T)
def zqB:List Value→HTr→Option (Value×HTr)
 | [.string text,.slice a n c],T=>if text.size≤1000000∧n≤1000000 then (zjh T 155 3 n a).bind fun cs=>(sq3 cs).map fun ss=>(.string ⟨(zjy text.data.toList ss).toArray⟩,T) else none
 |_,_=>none
def zqC:List Value→HTr→Option (Value×HTr)
 | [.string s],T=>if s.data.toList.length≤2000 then (T.push (.cells [.string s,.slice (some ⟨T.n+1,0,none⟩) 1024 1024,.slice (some ⟨T.n+2,0,none⟩) s.data.toList.length s.data.toList.length,.slice (some ⟨T.n+3,0,none⟩) s.data.toList.length s.data.toList.length] 199 true)).bind fun T1=>(T1.push (.cells (List.replicate 1024 (.int .i64 (-1))) 3 true)).bind fun T2=>(T2.push (.cells (List.replicate s.data.toList.length (.int .i64 0)) 3 true)).bind fun T3=>(T3.push (.cells (List.replicate s.data.toList.length (.bool false)) 4 true)).map fun T4=>(.pointer (some ⟨T.n,0,none⟩),T4) else none
 |_,_=>none
def RT1:FuncId→Option (List Value→HTr→Option (Value×HTr)):=fun f=>if f=84 then some zqA else if f=77 then some zqB else if f=104 then some zqC else none
theorem zov (args:List Value) (T:HTr) (H:Heap) (r:Value×HTr) (h:HRl T H) (hk:zqA args T=some r):∃H',zgf args H=some (r.1,H')∧HRl r.2 H':=by
 unfold zqA at hk
 cases hq:zgf args [] with
 |none=>rw [hq] at hk;cases hk
 |some p=>
  rw [hq] at hk;cases hk
  refine ⟨H,?_,h⟩
  unfold zgf at hq⊢
  split at hq
  ·split at hq
   ·rename_i hc;rw [if_pos hc];cases hq;rfl
   ·cases hq
  ·cases hq
theorem zow (args:List Value) (T:HTr) (H:Heap) (r:Value×HTr) (h:HRl T H) (hk:zqB args T=some r):∃H',zla args H=some (r.1,H')∧HRl r.2 H':=by
 unfold zqB at hk
 split at hk
 ·rename_i text a n c
  split at hk
  ·rename_i hc
   rw [zeC h] at hk
   unfold zla
   simp only
   rw [if_pos hc]
   cases hr:zaJ H 155 3 n a with
   |none=>rw [hr] at hk;cases hk
   |some cs=>
    rw [hr] at hk
    simp only [Option.bind_some] at hk⊢
    cases hs:sq3 cs with
    |none=>rw [hs] at hk;cases hk
    |some ss=>rw [hs] at hk;cases hk;exact ⟨H,rfl,h⟩
  ·cases hk
 ·cases hk
theorem zox (args:List Value) (T:HTr) (H:Heap) (r:Value×HTr) (h:HRl T H) (hk:zqC args T=some r):∃H',zlb args H=some (r.1,H')∧HRl r.2 H':=by
 unfold zqC at hk
 split at hk
 ·rename_i s
  split at hk
  ·rename_i hc
   unfold zlb
   simp only
   rw [if_pos hc]
   have hn:=h.n
   rw [hn] at hk
   cases h1:T.push (.cells [.string s,.slice (some ⟨H.next+1,0,none⟩) 1024 1024,.slice (some ⟨H.next+2,0,none⟩) s.data.toList.length s.data.toList.length,.slice (some ⟨H.next+3,0,none⟩) s.data.toList.length s.data.toList.length] 199 true) with
   |none=>rw [h1] at hk;cases hk
   |some T1=>
    rw [h1] at hk
    simp only [Option.bind_some] at hk
    cases h2:T1.push (.cells (List.replicate 1024 (.int .i64 (-1))) 3 true) with
    |none=>rw [h2] at hk;cases hk
    |some T2=>
     rw [h2] at hk
     simp only [Option.bind_some] at hk
     cases h3:T2.push (.cells (List.replicate s.data.toList.length (.int .i64 0)) 3 true) with
     |none=>rw [h3] at hk;cases hk
     |some T3=>
      rw [h3] at hk
      simp only [Option.bind_some] at hk
      cases h4:T3.push (.cells (List.replicate s.data.toList.length (.bool false)) 4 true) with
      |none=>rw [h4] at hk;cases hk
      |some T4=>
       rw [h4] at hk;cases hk
       have q:=HTr.push_ok (HTr.push_ok (HTr.push_ok (HTr.push_ok h h1) h2) h3) h4
       refine ⟨_,rfl,?_⟩
       unfold nwH nwB
       rw [zey]
       exact q
  ·cases hk
 ·cases hk
theorem zmV:zom S1 RT1:=by
 refine ⟨fun f q h=>?_,fun f h=>?_⟩
 ·unfold RT1 at h
  split at h
  ·rename_i hf
   cases h;subst hf
   exact ⟨zgf,rfl,zov⟩
  ·split at h
   ·rename_i hf
    cases h;subst hf
    exact ⟨zla,rfl,zow⟩
   ·split at h
    ·rename_i hf
     cases h;subst hf
     exact ⟨zlb,rfl,zox⟩
    ·cases h
 ·unfold RT1 at h
  show R1 f=none
  unfold R1 R0
  split at h
  ·cases h
  ·rename_i h1
   split at h
   ·cases h
   ·rename_i h2
    split at h
    ·cases h
    ·rename_i h3
     rw [if_neg h3,if_neg h1,if_neg h2]
end Go.Proofs.YtjgpbhodbgjggaaGreat.K
namespace Go.Proofs.YtjgpbhodbgjggaaGreat.K
open Go Go.Proofs Go.Shelf Go.RowKit
def zbJ:Go.Shelf.Ren:=⟨fun|156=>69|165=>98|166=>99|169=>100|240=>142|241=>143|276=>177|277=>178|n=>n,fun|31=>42|9=>9|3=>3|4=>4|0=>0|20=>20|72=>142|76=>146|70=>140|37=>95|75=>145|127=>196|164=>240|5=>5|80=>82|n=>n,fun|n=>n⟩
theorem ziv:Go.Proofs.Lays.n156 Go.Proofs.Tryz.prog zbJ:={
 mixed:=by kernel_rfl
 f156:=Go.Proofs.Tryz.func69.trans (congrArg some (by kernel_rfl))
 f165:=Go.Proofs.Tryz.func98.trans (congrArg some (by kernel_rfl))
 f166:=Go.Proofs.Tryz.func99.trans (congrArg some (by kernel_rfl))
 f169:=Go.Proofs.Tryz.func100.trans (congrArg some (by kernel_rfl))
 f240:=Go.Proofs.Tryz.func142.trans (congrArg some (by kernel_rfl))
 f241:=Go.Proofs.Tryz.func143.trans (congrArg some (by kernel_rfl))
 f276:=Go.Proofs.Tryz.func177.trans (congrArg some (by kernel_rfl))
 f277:=Go.Proofs.Tryz.func178.trans (congrArg some (by kernel_rfl))
 t0:=Go.Proofs.Tryz.underlying0
 a0:=Go.Proofs.Tryz.isAgg0
 z0:=Go.Proofs.Tryz.sizeOf0
 v0:=Go.Proofs.Tryz.zeroValue0
 t3:=Go.Proofs.Tryz.underlying3
 a3:=Go.Proofs.Tryz.isAgg3
 z3:=Go.Proofs.Tryz.sizeOf3
 v3:=Go.Proofs.Tryz.zeroValue3
 t4:=Go.Proofs.Tryz.underlying4
 a4:=Go.Proofs.Tryz.isAgg4
 z4:=Go.Proofs.Tryz.sizeOf4
 v4:=Go.Proofs.Tryz.zeroValue4
 t9:=Go.Proofs.Tryz.underlying9
 a9:=Go.Proofs.Tryz.isAgg9
 z9:=Go.Proofs.Tryz.sizeOf9
 v9:=Go.Proofs.Tryz.zeroValue9
 t20:=Go.Proofs.Tryz.underlying20
 a20:=Go.Proofs.Tryz.isAgg20
 z20:=Go.Proofs.Tryz.sizeOf20
 v20:=Go.Proofs.Tryz.zeroValue20
 t31:=Go.Proofs.Tryz.underlying42
 a31:=Go.Proofs.Tryz.isAgg42
 z31:=Go.Proofs.Tryz.sizeOf42
 v31:=Go.Proofs.Tryz.zeroValue42
 t37:=Go.Proofs.Tryz.underlying95
 a37:=Go.Proofs.Tryz.isAgg95
 z37:=Go.Proofs.Tryz.sizeOf95
 v37:=Go.Proofs.Tryz.zeroValue95
 t70:=Go.Proofs.Tryz.underlying140
 a70:=Go.Proofs.Tryz.isAgg140
 z70:=Go.Proofs.Tryz.sizeOf140
 v70:=Go.Proofs.Tryz.zeroValue140
 t72:=Go.Proofs.Tryz.underlying142
 a72:=Go.Proofs.Tryz.isAgg142
 z72:=Go.Proofs.Tryz.sizeOf142
 v72:=Go.Proofs.Tryz.zeroValue142
 t75:=Go.Proofs.Tryz.underlying145
 a75:=Go.Proofs.Tryz.isAgg145
 z75:=Go.Proofs.Tryz.sizeOf145
 v75:=Go.Proofs.Tryz.zeroValue145
 t76:=Go.Proofs.Tryz.underlying146
 a76:=Go.Proofs.Tryz.isAgg146
 z76:=Go.Proofs.Tryz.sizeOf146
 v76:=Go.Proofs.Tryz.zeroValue146
 t127:=Go.Proofs.Tryz.underlying196
 a127:=Go.Proofs.Tryz.isAgg196
 z127:=Go.Proofs.Tryz.sizeOf196
 v127:=Go.Proofs.Tryz.zeroValue196
 t164:=Go.Proofs.Tryz.underlying240
 a164:=Go.Proofs.Tryz.isAgg240
 z164:=Go.Proofs.Tryz.sizeOf240
 v164:=Go.Proofs.Tryz.zeroValue240}
theorem zgP:Builder.Extra Go.Proofs.Tryz.prog zbJ:={
 sizeBuilder:=by kernel_rfl
 liesBuilder:=by kernel_rfl
 t5:=za9.t5
 a5:=za9.a5
 z5:=za9.z5
 v5:=za9.v5
 infoByte:=by kernel_rfl
 cellsByte:=by kernel_rfl
 sizeByte:=by kernel_rfl
 neB5:=by decide}
theorem zrQ:zbJ.f 156=69:=by kernel_rfl
def strsOf:List Value→Option (List ByteArray)
 | []=>some []
 | .string s::l=>(strsOf l).map (s::·)
 |_::_=>none
def zgQ:List Value→Heap→Option (Value×Heap)
 | [.slice a n c,.string sep],H=>(zaJ H 9 1 n a).bind fun l=>(strsOf l).bind fun xs=>
  if n≤1000000∧(Lib.join (xs.map (·.data.toList)) sep.data.toList).length≤1000000000 then some (.string ⟨(Lib.join (xs.map (·.data.toList)) sep.data.toList).toArray⟩,H) else none
 |_,_=>none
theorem zgh:∀{l:List Value} {xs:List ByteArray},strsOf l=some xs→xs.length=l.length∧∀(i:Nat) x,xs[i]? =some x→l[i]? =some (.string x)
 | [],xs,h=>by
   simp only [strsOf,Option.some.injEq] at h
   subst h;exact ⟨rfl,fun i x h=>by simp at h⟩
 |v::l,xs,h=>by
  cases v with
  |string s=>
   simp only [strsOf,Option.map_eq_some_iff] at h
   obtain ⟨ys,hy,rfl⟩:=h
   obtain ⟨h1,h2⟩:=zgh hy
   refine ⟨by simp [h1],fun i x hx=>?_⟩
   cases i with
   |zero=>simp at hx;subst hx;rfl
   |succ i=>simp at hx;simpa using h2 i x hx
  |_=>simp [strsOf] at h
theorem zoy:zb1 Go.Proofs.Tryz.prog 69 zgQ:=by
 refine ⟨by kernel_rfl,?_⟩
 intro B w0 args H v H' h ρ w cargs hrel hv
 unfold zgQ at h
 split at h
 case h_2=>cases h
 rename_i a n c sep
 simp only [Option.bind_eq_some_iff] at h
 obtain ⟨l,hrow,xs,hxs,h⟩:=h
 split at h
 case isFalse=>cases h
 rename_i hlim
 simp only [Option.some.injEq,Prod.mk.injEq] at h
 obtain ⟨rfl,rfl⟩:=h
 obtain ⟨y,hy,h1⟩:=hv.get (i:=0) rfl
 obtain ⟨z,hz,h2⟩:=hv.get (i:=1) rfl
 obtain ⟨hl,-⟩:=hv
 obtain ⟨y',z',rfl⟩:∃y' z',cargs= [y',z']:=by
  match cargs,hl with
  | [a,b],_=>exact ⟨a,b,rfl⟩
 simp at hy hz
 subst hy;subst hz
 cases h2
 obtain ⟨hxl,hxg⟩:=zgh hxs
 have fin:∀a' c',Calls Go.Proofs.Tryz.prog (zbJ.f 156) #[.slice a' xs.length c',.string sep] w (fun e w'=>e= .returned (.string ⟨(Lib.join (xs.map (·.data.toList)) sep.data.toList).toArray⟩)∧Below w.heap.size w w')→
   Calls Go.Proofs.Tryz.prog 69 #[.slice a' xs.length c',.string sep] w fun e w'=>∃ρ' cv,e= .returned cv∧ρ<+:ρ'∧VRel Go.Proofs.Tryz.prog ρ' (.string ⟨(Lib.join (xs.map (·.data.toList)) sep.data.toList).toArray⟩) cv∧HRel Go.Proofs.Tryz.prog B w0 ρ' H w':=fun a' c' hc=>by
  rw [zrQ] at hc
  exact hc.mono fun e w' ⟨he,hb⟩=>⟨ρ,_,he,List.prefix_refl _,.string _,hrel.world ⟨hb.os,hb.tape,hb.output,hb.size,fun k hk=>hb.block k (hrel.base k hk)⟩ hb.block⟩
 have none0:xs= []→∀a' c',Calls Go.Proofs.Tryz.prog (zbJ.f 156) #[.slice a' xs.length c',.string sep] w (fun e w'=>e= .returned (.string ⟨(Lib.join (xs.map (·.data.toList)) sep.data.toList).toArray⟩)∧Below w.heap.size w w'):=fun hx a' c'=>by
  subst hx
  exact (Any.strings_Join_none ziv zgP a' c' sep w).mono fun e w' ⟨he,hw⟩=>⟨he,hw ▸ Below.refl _ _⟩
 cases h1 with
 |snil=>
  simp only [zaJ,if_true,Option.some.injEq] at hrow
  subst hrow
  simp only [strsOf,Option.some.injEq] at hxs
  subst hxs
  exact fin _ _ (none0 rfl _ _)
 |sl0=>
  have:xs= []:=by
   simp only [zaJ] at hrow
   split at hrow
   ·split at hrow
    ·simp only [rd,Nat.zero_mul,Nat.add_zero,List.take_zero] at hrow
     split at hrow
     ·cases hrow;simp only [strsOf,Option.some.injEq] at hxs;exact hxs.symm
     ·cases hrow
    ·cases hrow
   ·cases hrow
  subst this
  exact fin _ _ (none0 rfl _ _)
 |sl hL hn hc hs=>
  rename_i b off c' L
  by_cases hx0:xs= []
  ·have hn0:n=xs.length:=by
    simp only [zaJ] at hrow
    split at hrow
    ·split at hrow
     ·unfold rd at hrow
      split at hrow
      ·cases hrow;rw [hxl,List.length_take,List.length_drop];omega
      ·cases hrow
     ·cases hrow
    ·cases hrow
   rw [hn0]
   exact fin _ _ (none0 hx0 _ _)
  ·simp only [zaJ] at hrow
   split at hrow
   case h_2=>cases hrow
   rename_i cs t' rw' hg
   split at hrow
   case isFalse=>cases hrow
   have hB:=hrel.blk b L hL
   rw [hg] at hB
   obtain ⟨_,arr,tw,fr,g1,g2,g3,g4,_⟩:=hB
   unfold rd at hrow
   split at hrow
   case isFalse=>cases hrow
   rename_i hlen
   simp only [Nat.mul_one] at hlen hrow
   cases hrow
   have hn0:xs.length=n:=by rw [hxl,List.length_take,List.length_drop];omega
   have hlt:=(Array.getElem?_eq_some_iff.1 g1).1
   have hr:=Any.strings_Join ziv zgP L.block (L.off+off) c' xs sep w (fun j x hx=>by
    have hj:=hxg j x hx
    rw [List.getElem?_take] at hj
    split at hj
    ·rw [List.getElem?_drop] at hj
     obtain ⟨_,y,hy,hvy⟩:=g4 _ _ hj
     cases hvy
     simp only [World.cell?,g1]
     rw [←hy];simp [Nat.add_assoc]
    ·cases hj) hlt (by omega) (by omega) (by omega)
   have:=fin _ _ hr
   rw [hn0] at this
   exact this
def zmW:List Value→HTr→Option (Value×HTr)
 | [.slice a n c,.string sep],T=>(zjh T 9 1 n a).bind fun l=>(strsOf l).bind fun xs=>
  if n≤1000000∧(Lib.join (xs.map (·.data.toList)) sep.data.toList).length≤1000000000 then some (.string ⟨(Lib.join (xs.map (·.data.toList)) sep.data.toList).toArray⟩,T) else none
 |_,_=>none
theorem zmX (args:List Value) (T:HTr) (H:Heap) (r:Value×HTr) (h:HRl T H) (hk:zmW args T=some r):∃H',zgQ args H=some (r.1,H')∧HRl r.2 H':=by
 unfold zmW at hk
 split at hk
 ·rename_i a n c sep
  rw [zeC h] at hk
  unfold zgQ
  simp only
  cases hr:zaJ H 9 1 n a with
  |none=>rw [hr] at hk;cases hk
  |some l=>
   rw [hr] at hk
   simp only [Option.bind_some] at hk⊢
   cases hs:strsOf l with
   |none=>rw [hs] at hk;cases hk
   |some xs=>
    rw [hs] at hk
    simp only [Option.bind_some] at hk⊢
    split at hk
    ·rename_i hc
     rw [if_pos hc]
     cases hk
     exact ⟨H,rfl,h⟩
    ·cases hk
 ·cases hk
def R2:FuncId→Option (List Value→Heap→Option (Value×Heap)):=fun f=>if f=69 then some zgQ else R1 f
theorem zrR:∀f p,R2 f=some p→zb1 Go.Proofs.Tryz.prog f p:=fun f p h=>by
 unfold R2 at h
 split at h
 ·rename_i hf
  cases h;subst hf;exact zoy
 ·exact zrP f p h
def S2:Sys:=⟨F,M,R2,Bk⟩
theorem zrS:zfl Go.Proofs.Tryz.prog S2:=⟨zqw,by kernel_rfl,zqv,zrR,zmU⟩
def RT2:FuncId→Option (List Value→HTr→Option (Value×HTr)):=fun f=>if f=69 then some zmW else RT1 f
theorem zqD:zom S2 RT2:=by
 refine ⟨fun f q h=>?_,fun f h=>?_⟩
 ·unfold RT2 at h
  split at h
  ·rename_i hf
   cases h;subst hf
   exact ⟨zgQ,rfl,zmX⟩
  ·rename_i hf
   obtain ⟨p,h1,h2⟩:=zmV.1 f q h
   refine ⟨p,?_,h2⟩
   show R2 f=some p
   unfold R2
   rw [if_neg hf]
   exact h1
 ·unfold RT2 at h
  split at h
  ·cases h
  ·rename_i hf
   show R2 f=none
   unfold R2
   rw [if_neg hf]
   exact zmV.2 f h
end Go.Proofs.YtjgpbhodbgjggaaGreat.K
set_option maxHeartbeats 0
namespace Go.Proofs.YtjgpbhodbgjggaaGreat.K
open Go Go.Proofs
theorem run40:(evQ S2 RT2 300 37 [] T0).map (fun p=>p.1)=some (.bool true):=by kernel_rfl
theorem aw40_ok:zb1 Go.Proofs.Tryz.prog 37 (prim0 (.bool true)):=prim0_ok zrS rfl (by kernel_rfl) (zop zqD run40)
def R:FuncId→Option (List Value→Heap→Option (Value×Heap)):=fun f=>if f=37 then some (prim0 (.bool true)) else R0 f
theorem zsR:∀f p,R f=some p→zb1 Go.Proofs.Tryz.prog f p:=fun f p h=>by
 unfold R at h
 split at h
 ·rename_i hf
  cases h;subst hf;exact aw40_ok
 ·exact zmT f p h
theorem ziw:R 84=some zgf:=rfl
theorem aw40_prim:R 37=some (prim0 (.bool true)):=rfl
set_option maxHeartbeats 2000000
def S:Sys:=⟨F,M,R,Bk⟩
theorem S_ok:zfl Go.Proofs.Tryz.prog S:=⟨zqw,by kernel_rfl,zqv,zsR,zmU⟩
def Iv (H:Heap) (a:Option Addr) (l:List Int):Prop:=0< l.length→∃b o cs rw,a=some ⟨b,o,none⟩∧H.get b= .cells cs 3 rw∧∀(i:Nat) x,l[i]? =some x→cs[o+i]? =some (.int .i64 x)
theorem Iv.kp {H H':Heap} {a:Option Addr} {l:List Int} (h:Iv H a l) (hk:Kp H.next H H'):Iv H' a l:=fun hp=>by
 obtain ⟨b,o,cs,rw,h1,h2,h3⟩:=h hp
 exact ⟨b,o,cs,rw,h1,(hk.2 b (zai h2)).trans h2,h3⟩
def okL (x:Int):Bool:=decide (0≤x) && decide (x≤11)
def zgR (l:List Int):Prop:=l.all okL=true
theorem zix {p:Int→Bool} {l:List Int} {i:Nat} {x:Int} (h:l[i]? =some x):(l.take (i+1)).all p=((l.take i).all p && p x):=by
 rw [List.take_add_one,h];simp
theorem zqE {p:Int→Bool} {l:List Int} {i:Nat} {x:Int} (h:l[i]? =some x) (hp:p x=false):l.all p=false:=by
 rw [List.all_eq_false]
 exact ⟨x,List.mem_of_getElem? h,by simp [hp]⟩
theorem zdP {l:List Int} {i:Nat} {x:Int} (h:l[i]? =some x) (hp:okL x=false):zaS l=false:=by
 have:l.all (fun x=>decide (0≤x) && decide (x≤11))=false:=zqE h hp
 simp only [zaS,this,Bool.false_and]
section
variable {H:Heap} {a:Option Addr} {c:Nat} {l:List Int}
theorem zoz (hl:Iv H a l) (hm:(l.length:Int)≤9223372036854775807):Wf S 234 [.slice a l.length c] H fun v H'=>H'=H∧v= .bool (zaS l):=by
 refine w234 rfl rfl _ ?_
 simp [s234]
 refine l234_0 S (fun d e H'=>∃i:Nat,i≤l.length∧d=l.length - i∧H'=H∧e 0= .slice a l.length c∧e 5= .slice a l.length c∧e 6= .int .i64 l.length∧e 7= .int .i64 i∧zgR (l.take i)) l.length ⟨0,by omega,by omega,rfl,by simp,by simp,by simp,by simp,rfl⟩ ?_
 rintro d e H' ⟨i,hi,rfl,rfl,e0,e5,e6,e7,hok⟩
 by_cases h3:i< l.length
 ·obtain ⟨b,o,cs,rw,rfl,hg,hc⟩:=hl (by omega)
  obtain ⟨x,hx⟩:∃x,l[i]? =some x:=⟨_,List.getElem?_eq_getElem h3⟩
  have hcx:=hc i x hx
  have hw:IntKind.i64.wrap ((i:Int)+1)=(i:Int)+1:=wi (by omega) (by omega)
  by_cases g1:x< 0
  ·simp [s234_0,e5,e6,e7,h3,zac,hg,hcx,g1]
   exact zdP hx (by simp [okL];omega)
  by_cases g2:11< x
  ·simp [s234_0,e5,e6,e7,h3,zac,hg,hcx,g1,g2]
   exact zdP hx (by simp [okL];omega)
  ·simp [s234_0,e5,e6,e7,h3,zac,hg,hcx,g1,g2,hw]
   refine ⟨l.length - (i+1),by omega,i+1,by omega,rfl,e0,by simp,?_⟩
   unfold zgR at*
   rw [zix hx,hok];simp [okL];omega
 ·have h5:i=l.length:=by omega
  subst h5
  have hok':l.all (fun x=>decide (0≤x) && decide (x≤11))=true:=by unfold zgR at hok;rw [List.take_length] at hok;exact hok
  simp [s234_0,e0,e6,e7]
  simp only [zaS,hok',Bool.true_and]
  congr 1;apply propext;omega
theorem zmY (hl:Iv H a l) (hm:(l.length:Int)≤9223372036854775807):Wf S 209 [.slice a l.length c] H fun v H'=>H'=H∧v= .bool (zaS l):=by
 refine w209 rfl rfl _ ?_
 simp [s209]
 refine l209_0 S (fun d e H'=>∃i:Nat,i≤l.length∧d=l.length - i∧H'=H∧e 0= .slice a l.length c∧e 3= .int .i64 i∧zgR (l.take i)) l.length ⟨0,by omega,by omega,rfl,by simp,by simp,rfl⟩ ?_
 rintro d e H' ⟨i,hi,rfl,rfl,e0,e3,hok⟩
 by_cases h3:i< l.length
 ·obtain ⟨b,o,cs,rw,rfl,hg,hc⟩:=hl (by omega)
  obtain ⟨x,hx⟩:∃x,l[i]? =some x:=⟨_,List.getElem?_eq_getElem h3⟩
  have hcx:=hc i x hx
  have hw:IntKind.i64.wrap ((i:Int)+1)=(i:Int)+1:=wi (by omega) (by omega)
  by_cases g1:x< 0
  ·simp [s209_0,e0,e3,h3,zac,hg,hcx,g1]
   exact zdP hx (by simp [okL];omega)
  by_cases g2:11< x
  ·simp [s209_0,e0,e3,h3,zac,hg,hcx,g1,g2]
   exact zdP hx (by simp [okL];omega)
  ·simp [s209_0,e0,e3,h3,zac,hg,hcx,g1,g2,hw]
   refine ⟨l.length - (i+1),by omega,i+1,by omega,rfl,by simp,?_⟩
   unfold zgR at*
   rw [zix hx,hok];simp [okL];omega
 ·have h5:i=l.length:=by omega
  subst h5
  have hok':l.all (fun x=>decide (0≤x) && decide (x≤11))=true:=by unfold zgR at hok;rw [List.take_length] at hok;exact hok
  simp [s209_0,e0,e3]
  simp only [zaS,hok',Bool.true_and]
  congr 1;apply propext;omega
theorem zcw (H:Heap) (n:Nat) (h1:n≤30):Wf S 132 [.int .i64 n] H fun v H'=>H'=H∧v= .int .i64 (p2 n):=by
 refine w132 rfl rfl _ ?_
 simp [s132]
 refine l132_0 S (fun d e H'=>∃i:Nat,i≤n∧d=n - i∧H'=H∧e 0= .int .i64 n∧e 3= .int .i64 (p2 i)∧e 4= .int .i64 i) n ⟨0,by omega,by omega,rfl,by simp,by simp [p2],by simp⟩ ?_
 rintro d e H' ⟨i,hi,rfl,rfl,e0,e3,e4⟩
 by_cases h3:i< n
 ·have hw:IntKind.i64.wrap ((i:Int)+1)=(i:Int)+1:=wi (by omega) (by omega)
  have hb:p2 i≤p2 30:=p2_mono (by omega)
  have hp:=p2_pos i
  have e30:p2 30=1073741824:=by decide
  have hw2:IntKind.i64.wrap (p2 i*2)=p2 i*2:=wi (by omega) (by omega)
  simp [s132_0,e0,e3,e4,h3,hw,hw2]
  exact ⟨n - (i+1),by omega,i+1,by omega,rfl,by rw [p2_succ];omega,by omega⟩
 ·have h5:i=n:=by omega
  subst h5
  simp [s132_0,e0,e3,e4]
theorem zch {k k':IntKind} {a b:Int}:zat .shl (.int k a) (.int k' b)=if b< 0 then none else some (.int k (k.wrap (a*2 ^ (min b.toNat k.bits)))):=rfl
theorem zcx {k k':IntKind} {a b:Int}:zat .shr (.int k a) (.int k' b)=if b< 0 then none else some (.int k (a.fdiv (2 ^ (min b.toNat k.bits)))):=rfl
theorem za8 {l:List Int} (h:zaS l=true):l.length≤256:=by
 simp only [zaS,Bool.and_eq_true,decide_eq_true_eq] at h;exact h.2
theorem zaY {l:List Int} (h:zaS l=true) (k:Nat):0≤at0 l k∧at0 l k≤11:=by
 simp only [zaS,Bool.and_eq_true] at h;exact zis h.1 k
theorem at0_of {l:List Int} {i:Nat} {x:Int} (h:l[i]? =some x):at0 l i=x:=by
 unfold at0;rw [List.getD_eq_getElem?_getD,h];rfl
theorem zmZ {x:Int} (h0:0≤x) (h1:x≤11):IntKind.i64.wrap (1*2 ^ (min (11 - x).toNat IntKind.i64.bits))=part x:=by
 have e:min (11 - x).toNat IntKind.i64.bits=(11 - x).toNat:=by
  have:IntKind.i64.bits=64:=rfl
  omega
 rw [e,Int.one_mul]
 have h2:p2 (11 - x).toNat≤p2 11:=p2_mono (by omega)
 have h3:p2 11=2048:=by decide
 have h4:=p2_pos (11 - x).toNat
 have:(2:Int) ^ (11 - x).toNat=p2 (11 - x).toNat:=rfl
 rw [this,wi (by omega) (by omega)];rfl
end
set_option maxHeartbeats 4000000
theorem zoA {k:IntKind} {a b:Nat} (ha:a< 2 ^ k.bits) (hb:b< 2 ^ k.bits):zat .xor (.int k a) (.int k b)=some (.int k (k.wrap ((a ^^^ b:Nat):Int))):=by
 simp only [zat,zcS,if_true]
 rw [BitVec.toNat_xor,zca ha,zca hb]
theorem wuN (n:Nat):IntKind.u64.wrap (n:Int)=((n % 18446744073709551616:Nat):Int):=by
 simp [IntKind.wrap,IntKind.signed,IntKind.bits]
theorem wuL {n:Nat} (h:n< 18446744073709551616):IntKind.u64.wrap (n:Int)=(n:Int):=by
 rw [wuN,Nat.mod_eq_of_lt h]
theorem x64 {a b:Nat} (ha:a< 18446744073709551616) (hb:b< 18446744073709551616):zat .xor (.int .u64 (a:Int)) (.int .u64 (b:Int))=some (.int .u64 ((a ^^^ b:Nat):Int)):=by
 rw [zoA (k:= .u64) (show a< 2 ^ 64 from ha) (show b< 2 ^ 64 from hb),wuL (Nat.xor_lt_two_pow (n:=64) ha hb)]
theorem m64 {a b:Nat}:zat .mul (.int .u64 (a:Int)) (.int .u64 (b:Int))=some (.int .u64 ((a*b % 18446744073709551616:Nat):Int)):=by
 have:zat .mul (.int .u64 (a:Int)) (.int .u64 (b:Int))=some (.int .u64 (IntKind.u64.wrap ((a:Int)*b))):=rfl
 rw [this,←Int.natCast_mul,wuN]
def zqF:Nat:=11400714819323198485
def zrT:Nat:=13787848793156543929
def sum0:Nat:=7640891576956012808
def zfw (h:Nat) (x:UInt8):Nat:=((h ^^^ x.toNat)*zqF % 18446744073709551616) ^^^ ((h ^^^ x.toNat)*zqF % 18446744073709551616 / 536870912)
def zqG (h n:Nat):Nat:=((h+n) % 18446744073709551616*zrT % 18446744073709551616) ^^^ ((h+n) % 18446744073709551616*zrT % 18446744073709551616 / 4294967296)
def zhv (t:Bytes):Nat:=zqG (t.foldl zfw sum0) t.length
theorem zhw (h:Nat) (x:UInt8):zfw h x< 18446744073709551616:=by
 have h1:=Nat.mod_lt ((h ^^^ x.toNat)*zqF) (show 0< 18446744073709551616 by decide)
 exact Nat.xor_lt_two_pow (n:=64) h1 (Nat.lt_of_le_of_lt (Nat.div_le_self _ _) h1)
theorem zoB (t:Bytes):∀h,h< 18446744073709551616→t.foldl zfw h< 18446744073709551616:=by
 induction t with
 |nil=>exact fun h hh=>hh
 |cons x t ih=>exact fun h _=>ih _ (zhw h x)
theorem sh64 {a:Nat} {s:Nat} (hs:s< 64) (ha:a< 18446744073709551616):zat .shr (.int .u64 (a:Int)) (.int .u64 (s:Int))=some (.int .u64 ((a / 2 ^ s:Nat):Int)):=by
 rw [zcx,if_neg (by omega)]
 have hm:min (s:Int).toNat IntKind.u64.bits=s:=by rw [Int.toNat_natCast];exact Nat.min_eq_left (by show s≤64;omega)
 rw [hm,Int.fdiv_eq_ediv_of_nonneg _ (by exact_mod_cast Nat.zero_le _)]
 congr 2
section
variable {H:Heap}
theorem zoC (h n:Nat) (hh:h< 18446744073709551616) (hn:n< 18446744073709551616) (x:UInt8):Wf S 118 [.agg #[.int .u64 h,.int .u64 n],bv x] H fun v H'=>Kp H.next H H'∧v= .agg #[.int .u64 (zfw h x),.int .u64 (((n+1) % 18446744073709551616:Nat):Int)]:=by
 refine w118 rfl rfl _ _ ?_
 have hx:=x.toNat_lt
 have g1:(H.push (.cells [.int .u64 h,.int .u64 n] 113 true)).get H.next= .cells [.int .u64 h,.int .u64 n] 113 true:=zaf
 obtain ⟨H1,hH1⟩:∃H1,H1=H.push (.cells [.int .u64 h,.int .u64 n] 113 true):=⟨_,rfl⟩
 rw [←hH1] at g1
 have hn1:H1.next=H.next+1:=by rw [hH1];simp
 obtain ⟨H2,hH2⟩:∃H2,H2=H1.push (.cells [.int .u64 0,.int .u64 0] 113 true):=⟨_,rfl⟩
 have g2:H2.get H.next= .cells [.int .u64 h,.int .u64 n] 113 true:=by rw [hH2,zae (by omega)];exact g1
 have g3:H2.get H1.next= .cells [.int .u64 0,.int .u64 0] 113 true:=by rw [hH2];exact zaf
 have hn2:H2.next=H.next+2:=by rw [hH2];simp [hn1]
 have e1:=x64 hh (b:=x.toNat) (by omega)
 have e2:=m64 (a:=h ^^^ x.toNat) (b:=11400714819323198485)
 have h1:=Nat.mod_lt ((h ^^^ x.toNat)*11400714819323198485) (show 0< 18446744073709551616 by decide)
 obtain ⟨m,hm⟩:∃m,m=(h ^^^ x.toNat)*11400714819323198485 % 18446744073709551616:=⟨_,rfl⟩
 rw [←hm] at e2 h1
 have e3:zat .shr (.int .u64 (m:Int)) (.int .u64 29)=some (.int .u64 ((m / 536870912:Nat):Int)):=sh64 (a:=m) (s:=29) (by omega) h1
 have e4:=x64 h1 (b:=m / 536870912) (Nat.lt_of_le_of_lt (Nat.div_le_self _ _) h1)
 obtain ⟨q,hq⟩:∃q,q=m / 536870912:=⟨_,rfl⟩
 rw [←hq] at e3 e4
 have ew:IntKind.u64.wrap (x.toNat:Int)=x.toNat:=wuL (by omega)
 have ew2:IntKind.u64.wrap (((h ^^^ x.toNat:Nat):Int)*11400714819323198485)=(m:Int):=by rw [hm,←wuN];congr 1
 have ew3:IntKind.u64.wrap ((n:Int)+1)=(((n+1) % 18446744073709551616:Nat):Int):=by rw [←wuN];congr 1
 obtain ⟨N1,hN1⟩:∃N1,N1=(n+1) % 18446744073709551616:=⟨_,rfl⟩
 rw [←hN1] at ew3⊢
 have hsB:zfw h x=m ^^^ q:=by rw [hq,hm];rfl
 rw [hsB]
 obtain ⟨B1,hB1⟩:∃B1,B1=m ^^^ q:=⟨_,rfl⟩
 rw [←hB1] at e4⊢
 obtain ⟨H3,hH3⟩:∃H3,H3=H2.put H1.next (.cells [.int .u64 B1,.int .u64 N1] 113 true):=⟨_,rfl⟩
 have g4:H3.get H1.next= .cells [.int .u64 B1,.int .u64 N1] 113 true:=by rw [hH3];exact zad (by omega)
 simp [-zbr,s118,bv,zaw,cellsL,zac,←hH1,←hH2]
 simp [g2,e1,ew2,ew,e3,e4,ew3,zaC,zaQ,zaw,cellsL,wr,zaW,g3,←hH3,zaM,g4,rd,tup]
 refine ⟨by rw [hH3,next_put];omega,fun k hk=>?_⟩
 rw [hH3,zaa (by omega),hH2,zae (by omega),hH1,zae hk]
theorem zqH (h n:Nat) (hh:h< 18446744073709551616) (hn:n< 18446744073709551616) (t:Bytes) (ht:t.length≤1000000):Wf S 79 [.agg #[.int .u64 h,.int .u64 n],.string (ofL t)] H fun v H'=>Kp H.next H H'∧v= .agg #[.int .u64 ((t.foldl zfw h:Nat):Int),.int .u64 (((n+t.length) % 18446744073709551616:Nat):Int)]:=by
 refine w79 rfl rfl _ _ ?_
 obtain ⟨NN,hNN⟩:∃NN,NN=(n+t.length) % 18446744073709551616:=⟨_,rfl⟩
 rw [←hNN]
 have g1:(H.push (.cells [.int .u64 h,.int .u64 n] 113 true)).get H.next= .cells [.int .u64 h,.int .u64 n] 113 true:=zaf
 obtain ⟨H1,hH1⟩:∃H1,H1=H.push (.cells [.int .u64 h,.int .u64 n] 113 true):=⟨_,rfl⟩
 rw [←hH1] at g1
 have hn1:H1.next=H.next+1:=by rw [hH1];simp
 obtain ⟨H2,hH2⟩:∃H2,H2=H1.push (.cells [.int .u64 0,.int .u64 0] 113 true):=⟨_,rfl⟩
 have g2:H2.get H.next= .cells [.int .u64 h,.int .u64 n] 113 true:=by rw [hH2,zae (by omega)];exact g1
 have g3:H2.get H1.next= .cells [.int .u64 0,.int .u64 0] 113 true:=by rw [hH2];exact zaf
 have hn2:H2.next=H.next+2:=by rw [hH2];simp [hn1]
 have hk2:Kp H.next H H2:=by rw [hH2,hH1];exact (Kp.push (Nat.le_refl _)).trans (Kp.push (by simp))
 simp [-zbr,s79,zaw,cellsL,zac,zaj,←hH1,←hH2]
 refine l79_0 S (fun d e H'=>∃(i a:Nat),i≤t.length∧d=t.length - i∧a< 18446744073709551616∧t.foldl zfw h=(t.drop i).foldl zfw a∧Kp H.next H H'∧H2.next≤H'.next∧H'.get H.next= .cells [.int .u64 a,.int .u64 (((n+i) % 18446744073709551616:Nat):Int)] 113 true∧H'.get H1.next= .cells [.int .u64 0,.int .u64 0] 113 true∧e 1= .string (ofL t)∧e 2= .pointer (some ⟨H.next,0,none⟩)∧e 4= .pointer (some ⟨H1.next,0,none⟩)∧e 7= .int .i64 t.length∧e 8= .int .i64 i) t.length ⟨0,h,by omega,by omega,hh,rfl,hk2,Nat.le_refl _,by rw [Nat.add_zero,Nat.mod_eq_of_lt hn];exact g2,g3,by simp,by simp,by simp,by simp,by simp⟩ ?_
 rintro d e H' ⟨i,a,hi,rfl,ha,hF,hk,hnx,q1,q2,e1,e2,e4,e7,e8⟩
 by_cases h3:i< t.length
 ·have h3':(i:Int)< t.length:=by omega
  obtain ⟨x,hx⟩:∃x,t[i]? =some x:=⟨_,List.getElem?_eq_getElem h3⟩
  obtain ⟨u1,u2⟩:=List.getElem?_eq_some_iff.1 hx
  have hdr:t.drop i=x::t.drop (i+1):=by rw [List.drop_eq_getElem_cons u1,u2]
  have w1:IntKind.i64.wrap ((i:Int)+1)=(i:Int)+1:=wi (by omega) (by omega)
  obtain ⟨nn,hnn⟩:∃nn,nn=(n+i) % 18446744073709551616:=⟨_,rfl⟩
  rw [←hnn] at q1
  have hnn2:(nn+1) % 18446744073709551616=(n+(i+1)) % 18446744073709551616:=by rw [hnn];omega
  have hnl:nn< 18446744073709551616:=by rw [hnn];exact Nat.mod_lt _ (by decide)
  have hat:=fun K=>s_at (S:=S) (e:= []) (K:=K) (H:=H') (k:= .i64) hx
  simp [s79_0,e1,e2,e4,e7,e8,h3,h3',zaM,q1,rd,hat]
  refine (zoC a nn ha hnl x).mono ?_
  rintro v H3 ⟨hk3,rfl⟩
  have r1:H3.get H.next= .cells [.int .u64 a,.int .u64 nn] 113 true:=by rw [hk3.2 _ (by omega)];exact q1
  have r2:H3.get H1.next= .cells [.int .u64 0,.int .u64 0] 113 true:=by rw [hk3.2 _ (by omega)];exact q2
  rw [hnn2]
  obtain ⟨n2,hn2e⟩:∃n2,n2=(n+(i+1)) % 18446744073709551616:=⟨_,rfl⟩
  rw [←hn2e]
  have hn3:=hk3.1
  simp [zaW,r1,wr,w1,e8,e1,e2,e4,e7]
  refine ⟨t.length - (i+1),by omega,i+1,by omega,rfl,zfw a x,zhw a x,?_,?_,?_,?_,?_,by omega⟩
  ·rw [hF,hdr];rfl
  ·exact (hk.trans (hk3.mono (by omega))).trans (Kp.put (Nat.le_refl _))
  ·rw [next_put];omega
  ·rw [zad (by omega),hn2e];rfl
  ·rw [zaa (by omega)];exact r2
 ·have hin:i=t.length:=by omega
  subst hin
  rw [List.drop_eq_nil_of_le (Nat.le_refl _)] at hF
  rw [hF]
  rw [←hNN] at q1
  obtain ⟨H4,hH4⟩:∃H4,H4=H'.put H1.next (.cells [.int .u64 a,.int .u64 NN] 113 true):=⟨_,rfl⟩
  have g4:H4.get H1.next= .cells [.int .u64 a,.int .u64 NN] 113 true:=by rw [hH4];exact zad (by omega)
  simp [s79_0,e2,e4,e7,e8,zaM,q1,rd,zaW,q2,wr,←hH4,g4,tup]
  rw [hH4]
  exact hk.trans (Kp.put (by omega))
theorem zqI:Wf S 78 [] H fun v H'=>Kp H.next H H'∧v= .agg #[.int .u64 sum0,.int .u64 (0:Nat)]:=by
 refine w78 rfl rfl ?_
 have g1:(H.push (.cells [.int .u64 0,.int .u64 0] 113 true)).get H.next= .cells [.int .u64 0,.int .u64 0] 113 true:=zaf
 obtain ⟨H1,hH1⟩:∃H1,H1=H.push (.cells [.int .u64 0,.int .u64 0] 113 true):=⟨_,rfl⟩
 rw [←hH1] at g1
 have hn1:H1.next=H.next+1:=by rw [hH1];simp
 obtain ⟨H2,hH2⟩:∃H2,H2=H1.put H.next (.cells [.int .u64 7640891576956012808,.int .u64 0] 113 true):=⟨_,rfl⟩
 have g2:H2.get H.next= .cells [.int .u64 7640891576956012808,.int .u64 0] 113 true:=by rw [hH2];exact zad (by omega)
 simp [s78,←hH1,zaC,zaQ,zaw,cellsL,wr,Env.ev,zaW,g1,←hH2,zaM,g2,rd,tup]
 refine ⟨?_,rfl⟩
 rw [hH2,hH1]
 exact (Kp.push (Nat.le_refl _)).trans (Kp.put (Nat.le_refl _))
theorem zqJ (h n:Nat) (hh:h< 18446744073709551616) (hn:n< 18446744073709551616):Wf S 80 [.agg #[.int .u64 h,.int .u64 n]] H fun v H'=>Kp H.next H H'∧v= .int .u64 (zqG h n):=by
 refine w80 rfl rfl _ ?_
 have g1:(H.push (.cells [.int .u64 h,.int .u64 n] 113 true)).get H.next= .cells [.int .u64 h,.int .u64 n] 113 true:=zaf
 have hk1:Kp H.next H (H.push (.cells [.int .u64 h,.int .u64 n] 113 true)):=Kp.push (Nat.le_refl _)
 obtain ⟨H1,hH1⟩:∃H1,H1=H.push (.cells [.int .u64 h,.int .u64 n] 113 true):=⟨_,rfl⟩
 rw [←hH1] at g1 hk1
 have h1:=Nat.mod_lt ((h+n) % 18446744073709551616*13787848793156543929) (show 0< 18446744073709551616 by decide)
 obtain ⟨m,hm⟩:∃m,m=(h+n) % 18446744073709551616*13787848793156543929 % 18446744073709551616:=⟨_,rfl⟩
 rw [←hm] at h1
 have ew1:IntKind.u64.wrap ((h:Int)+n)=(((h+n) % 18446744073709551616:Nat):Int):=by rw [←wuN];congr 1
 have ew2:IntKind.u64.wrap ((((h+n) % 18446744073709551616:Nat):Int)*13787848793156543929)=(m:Int):=by rw [hm,←wuN];congr 1
 have e3:zat .shr (.int .u64 (m:Int)) (.int .u64 32)=some (.int .u64 ((m / 4294967296:Nat):Int)):=sh64 (a:=m) (s:=32) (by omega) h1
 have e4:=x64 h1 (b:=m / 4294967296) (Nat.lt_of_le_of_lt (Nat.div_le_self _ _) h1)
 obtain ⟨q,hq⟩:∃q,q=m / 4294967296:=⟨_,rfl⟩
 rw [←hq] at e3 e4
 have hsE:zqG h n=m ^^^ q:=by rw [hq,hm];rfl
 rw [hsE]
 obtain ⟨B1,hB1⟩:∃B1,B1=m ^^^ q:=⟨_,rfl⟩
 rw [←hB1] at e4⊢
 obtain ⟨hn',hhn⟩:∃hn',hn'=(h+n) % 18446744073709551616:=⟨_,rfl⟩
 rw [←hhn] at ew1 ew2
 simp [-zbr,s80,zaw,cellsL,zac,←hH1]
 simp [g1,ew1,ew2,e3,e4]
 exact hk1
theorem zoD (t:Bytes) (ht:t.length≤1000000):Wf S 48 [.string (ofL t)] H fun v H'=>Kp H.next H H'∧v= .int .u64 (zhv t):=by
 refine w48 rfl rfl _ ?_
 simp [s48]
 refine zqI.mono ?_
 rintro v H1 ⟨hk1,rfl⟩
 simp
 obtain ⟨NN,hNN⟩:∃NN,NN=(0+t.length) % 18446744073709551616:=⟨_,rfl⟩
 have hadd:=zqH (H:=H1) sum0 0 (show sum0< 18446744073709551616 by decide) (show 0< 18446744073709551616 by decide) t ht
 rw [←hNN] at hadd
 refine hadd.mono ?_
 rintro v H2 ⟨hk2,rfl⟩
 try simp
 refine (zqJ _ NN (zoB t sum0 (show sum0< 18446744073709551616 by decide)) (by rw [hNN];exact Nat.mod_lt _ (by decide))).mono ?_
 rintro v H3 ⟨hk3,rfl⟩
 have n1:=hk1.1
 have n2:=hk2.1
 refine ⟨(hk1.trans (hk2.mono n1)).trans (hk3.mono (by omega)),?_⟩
 rw [hNN,Nat.zero_add,Nat.mod_eq_of_lt (by omega)]
 rfl
end
theorem q64 {a c:Nat} (hc:0< c) (ha:a< 18446744073709551616):zat .quo (.int .u64 (a:Int)) (.int .u64 (c:Int))=some (.int .u64 ((a / c:Nat):Int)):=by
 have h0:¬(c:Int)=0:=by omega
 have:zat .quo (.int .u64 (a:Int)) (.int .u64 (c:Int))=if (c:Int)=0 then none else some (.int .u64 (IntKind.u64.wrap (Int.tdiv (a:Int) c))):=rfl
 rw [this,if_neg h0,show Int.tdiv (a:Int) (c:Int)=((a / c:Nat):Int) from rfl,wuL (Nat.lt_of_le_of_lt (Nat.div_le_self _ _) ha)]
section
variable {H:Heap}
theorem zqK (t:Bytes) (ht:t.length≤1000000):Wf S 30 [.string (ofL t)] H fun v H'=>H'=H∧v= .int .u64 (zhv t):=by
 refine w30 rfl rfl _ ?_
 simp [s30]
 refine l30_0 S (fun d e H'=>∃(i a:Nat),i≤t.length∧d=t.length - i∧a< 18446744073709551616∧t.foldl zfw sum0=(t.drop i).foldl zfw a∧H'=H∧e 0= .string (ofL t)∧e 3= .int .u64 a∧e 4= .int .i64 i) t.length ⟨0,sum0,by omega,by omega,by decide,rfl,rfl,by simp,by simp;rfl,by simp⟩ ?_
 rintro d e H' ⟨i,a,hi,rfl,ha,hF,rfl,e0,e3,e4⟩
 by_cases h3:i< t.length
 ·have h3':(i:Int)< t.length:=by omega
  obtain ⟨x,hx⟩:∃x,t[i]? =some x:=⟨_,List.getElem?_eq_getElem h3⟩
  obtain ⟨u1,u2⟩:=List.getElem?_eq_some_iff.1 hx
  have hdr:t.drop i=x::t.drop (i+1):=by rw [List.drop_eq_getElem_cons u1,u2]
  have hxl:=x.toNat_lt
  have w1:IntKind.i64.wrap ((i:Int)+1)=(i:Int)+1:=wi (by omega) (by omega)
  have hat:=fun K=>s_at (S:=S) (e:= []) (K:=K) (H:=H') (k:= .i64) hx
  have f1:=x64 ha (b:=x.toNat) (by omega)
  have h1:=Nat.mod_lt ((a ^^^ x.toNat)*11400714819323198485) (show 0< 18446744073709551616 by decide)
  obtain ⟨m,hm⟩:∃m,m=(a ^^^ x.toNat)*11400714819323198485 % 18446744073709551616:=⟨_,rfl⟩
  rw [←hm] at h1
  have f3:zat .quo (.int .u64 (m:Int)) (.int .u64 536870912)=some (.int .u64 ((m / 536870912:Nat):Int)):=q64 (c:=536870912) (by decide) h1
  have f4:=x64 h1 (b:=m / 536870912) (Nat.lt_of_le_of_lt (Nat.div_le_self _ _) h1)
  obtain ⟨q,hq⟩:∃q,q=m / 536870912:=⟨_,rfl⟩
  rw [←hq] at f3 f4
  have ew:IntKind.u64.wrap (x.toNat:Int)=x.toNat:=wuL (by omega)
  have ew2:IntKind.u64.wrap (((a ^^^ x.toNat:Nat):Int)*11400714819323198485)=(m:Int):=by rw [hm,←wuN];congr 1
  have hsB:zfw a x=m ^^^ q:=by rw [hq,hm];rfl
  simp [s30_0,e0,e3,e4,zaj,h3,h3',hat,bv,ew,f1,ew2,f3,f4,w1]
  exact ⟨t.length - (i+1),by omega,i+1,by omega,rfl,m ^^^ q,by rw [←hsB];exact zhw a x,by rw [hF,hdr,←hsB];rfl,rfl,by omega⟩
 ·have hin:i=t.length:=by omega
  subst hin
  rw [List.drop_eq_nil_of_le (Nat.le_refl _)] at hF
  have h1:=Nat.mod_lt ((a+t.length) % 18446744073709551616*13787848793156543929) (show 0< 18446744073709551616 by decide)
  obtain ⟨m,hm⟩:∃m,m=(a+t.length) % 18446744073709551616*13787848793156543929 % 18446744073709551616:=⟨_,rfl⟩
  rw [←hm] at h1
  have ew0:IntKind.u64.wrap (t.length:Int)=t.length:=wuL (by omega)
  have ew1:IntKind.u64.wrap ((a:Int)+t.length)=(((a+t.length) % 18446744073709551616:Nat):Int):=by rw [←wuN];congr 1
  have ew2:IntKind.u64.wrap ((((a+t.length) % 18446744073709551616:Nat):Int)*13787848793156543929)=(m:Int):=by rw [hm,←wuN];congr 1
  have f3:zat .quo (.int .u64 (m:Int)) (.int .u64 4294967296)=some (.int .u64 ((m / 4294967296:Nat):Int)):=q64 (c:=4294967296) (by decide) h1
  have f4:=x64 h1 (b:=m / 4294967296) (Nat.lt_of_le_of_lt (Nat.div_le_self _ _) h1)
  obtain ⟨q,hq⟩:∃q,q=m / 4294967296:=⟨_,rfl⟩
  rw [←hq] at f3 f4
  have hsE:zhv t=m ^^^ q:=by unfold zhv;rw [hF,hq,hm];rfl
  rw [hsE]
  obtain ⟨N1,hN1⟩:∃N1,N1=(a+t.length) % 18446744073709551616:=⟨_,rfl⟩
  rw [←hN1] at ew1 ew2
  simp [s30_0,e0,e3,e4,zaj,ew0,ew1,ew2,f3,f4]
end
set_option maxHeartbeats 2000000
def RdB (l:Bytes) (bad:Bool):Blk:= .cells [.string (ofL l),.bool bad] 119 true
def Rd (H:Heap) (b:Nat) (l:Bytes) (bad:Bool):Prop:=H.get b=RdB l bad
theorem Rd.lt {H:Heap} {b:Nat} {l:Bytes} {bad:Bool} (h:Rd H b l bad):b< H.next:=zai h
theorem zaZ {H:Heap} {b:Nat} {l:Bytes} {bad:Bool} (h:b< H.next):Rd (H.put b (RdB l bad)) b l bad:=zad h
section
variable {H:Heap} {b:Nat} {l:Bytes} {bad:Bool}
theorem zgi (l:Bytes):Wf S 52 [.string (ofL l)] H fun v H'=>v= .pointer (some ⟨H.next,0,none⟩)∧H'=H.push (RdB l false):=by
 refine w52 rfl rfl _ ?_
 simp [s52,zaC,zaQ,zaw,cellsL,wr,RdB]
theorem zbc (h:Rd H b l bad):Wf S 61 [.pointer (some ⟨b,0,none⟩)] H fun v H'=>H'=H∧v= .bool bad:=by
 refine w61 rfl rfl _ ?_
 have h':H.get b= .cells [.string (ofL l),.bool bad] 119 true:=h
 simp [s61,kEq,zac,h']
theorem zc7 (h:Rd H b l bad):Wf S 90 [.pointer (some ⟨b,0,none⟩)] H fun v H'=>H'=H.put b (RdB [] true):=by
 refine w90 rfl rfl _ ?_
 have h':H.get b= .cells [.string (ofL l),.bool bad] 119 true:=h
 have hlt:=h.lt
 simp [s90,kEq,zac,kSt,h',zaB,zad hlt,zbi,RdB,zan]
def zar (l:Bytes) (bad:Bool) (n:Nat):Bytes:=if bad=true∨l.length< n then [] else l.take n
def zaE (l:Bytes) (bad:Bool) (n:Nat):Bytes:=if bad=true∨l.length< n then [] else l.drop n
def zav (l:Bytes) (bad:Bool) (n:Nat):Bool:=bad||decide (l.length< n)
theorem zcL (h:Rd H b l bad) (n:Int):Wf S 83 [.pointer (some ⟨b,0,none⟩),.int .i64 n] H fun v H'=>v= .string (ofL (zar l bad n.toNat))∧H'=H.put b (RdB (zaE l bad n.toNat) (zav l bad n.toNat)):=by
 refine w83 rfl rfl _ _ ?_
 have h':H.get b= .cells [.string (ofL l),.bool bad] 119 true:=h
 have hlt:=h.lt
 have hmx:max n 0=(n.toNat:Int):=by omega
 generalize n.toNat=k at hmx
 simp [s83,hmx]
 refine (zbc h).mono ?_
 rintro v H1 ⟨rfl,rfl⟩
 cases bad with
 |true=>
  simp
  refine (zc7 h).mono ?_
  rintro v H2 rfl
  simp [zar,zaE,zav,zan]
 |false=>
  by_cases g:l.length< k
  ·have g':(l.length:Int)< k:=by omega
   simp [zac,h',zaj,g,g']
   refine (zc7 h).mono ?_
   rintro v H2 rfl
   simp [zar,zaE,zav,zan,g]
  ·have g':¬(l.length:Int)< k:=by omega
   have g2:k≤l.length:=by omega
   have g3:(k:Int)≤l.length:=by omega
   simp [zac,h',zaj,g,g',zdt,zbs,g2,g3,kSt,zaB]
   simp [zar,zaE,zav,g,RdB]
theorem zqL (h:Rd H b l bad):Wf S 72 [.pointer (some ⟨b,0,none⟩)] H fun v H'=>v= .string (ofL (if bad then [] else l))∧H'=if bad then H else H.put b (RdB [] false):=by
 refine w72 rfl rfl _ ?_
 have h':H.get b= .cells [.string (ofL l),.bool bad] 119 true:=h
 simp [s72]
 refine (zbc h).mono ?_
 rintro v H1 ⟨rfl,rfl⟩
 cases bad with
 |true=>simp [zan]
 |false=>
  simp [zac,h',zaj]
  refine (zcL h _).mono ?_
  rintro v H2 ⟨rfl,rfl⟩
  simp [zar,zaE,zav]
theorem zm0 (H:Heap) (n:Int):Wf S 119 [.int .i64 n] H fun v H'=>H'=H∧v= .int .i64 (min (max n 0) 8):=by
 refine w119 rfl rfl _ ?_
 simp [s119]
theorem zrU {k:IntKind} {a b:Int}:zat .or (.int k a) (.int k b)=some (.int k (k.wrap (BitVec.ofInt k.bits a|||BitVec.ofInt k.bits b).toNat)):=by simp [zat,zcS]
theorem zqM {k:IntKind} {a b:Int}:zat .and (.int k a) (.int k b)=some (.int k (k.wrap (BitVec.ofInt k.bits a &&& BitVec.ofInt k.bits b).toNat)):=by simp [zat,zcS]
theorem wu64 {x:Int} (h0:0≤x) (h1:x< 18446744073709551616):IntKind.u64.wrap x=x:=by
 simp [IntKind.wrap,IntKind.signed,IntKind.bits];omega
theorem zeH (h:Rd H b l bad):Wf S 82 [.pointer (some ⟨b,0,none⟩),.int .i64 1] H fun v H'=>v= .int .u64 ((zar l bad 1).headD 0).toNat∧Rd H' b (zaE l bad 1) (zav l bad 1)∧H.next≤H'.next∧∀k,k< H.next→k≠b→H'.get k=H.get k:=by
 refine w82 rfl rfl _ _ ?_
 simp [s82]
 refine (zm0 H 1).mono ?_
 rintro v H1 ⟨rfl,rfl⟩
 try simp
 refine (zcL h _).mono ?_
 rintro v H2 ⟨rfl,rfl⟩
 have e1:(min (max 1 0) 8:Int).toNat=1:=by decide
 rw [e1]
 have hlt:=h.lt
 have hrd:=zaZ (l:=zaE l bad 1) (bad:=zav l bad 1) hlt
 have hlen:(zar l bad 1).length≤1:=by unfold zar;split<;>simp;omega
 rw [zb4 (by unfold zag;omega)]
 have hold:∀k,k< H1.next→k≠b→(H1.put b (RdB (zaE l bad 1) (zav l bad 1))).get k=H1.get k:=fun k _ hk=>zaa hk
 have hnx:(H1.put b (RdB (zaE l bad 1) (zav l bad 1))).next=H1.next:=next_put
 generalize H1.put b (RdB (zaE l bad 1) (zav l bad 1))=H3 at*
 simp
 cases ho:zar l bad 1 with
 |nil=>
  refine u82_0 S ?_
  simp [s82_0]
  refine ⟨?_,by omega,fun k hk hkb=>by rw [if_pos (by omega)];exact hold k hk hkb⟩
  unfold Rd;rw [zae (by omega)];exact hrd
 |cons c cs=>
  have hcs:cs= []:=by rw [ho] at hlen;cases cs with|nil=>rfl|cons _ _=>simp at hlen
  subst hcs
  have hz:IntKind.i64.wrap 0=0:=by decide
  have hmin:min 0 IntKind.u64.bits=0:=by decide
  have hc:c.toNat< 256:=c.toNat_lt
  have hwu:IntKind.u64.wrap (c.toNat:Int)=c.toNat:=wu64 (by omega) (by omega)
  have hor:IntKind.u64.wrap ((c.toNat:Int) % 2 ^ IntKind.u64.bits)=c.toNat:=by
   have:((c.toNat:Int) % 2 ^ IntKind.u64.bits)=c.toNat:=by
    have:IntKind.u64.bits=64:=rfl
    rw [this];omega
   rw [this];exact hwu
  have hw1:IntKind.i64.wrap 1=1:=by decide
  refine u82_0 S ?_
  simp [s82_0,zac,bvs,bv,zch,zrU,hz,hmin,hwu,hor,hw1]
  refine u82_0 S ?_
  simp [s82_0]
  refine ⟨?_,by omega,fun k hk hkb=>by rw [if_pos (by omega)];exact hold k hk hkb⟩
  unfold Rd;rw [zae (by omega)];exact hrd
end
def BrB (sv:Value) (at_:Nat):Blk:= .cells [sv,.int .i64 at_] 265 true
def By (H:Heap) (b:Nat) (sv:Value) (s:Bytes):Prop:=∃a c,sv= .slice a s.length c∧(0< s.length→∃bb,a=some ⟨bb,0,none⟩∧bb≠b∧H.get bb= .cells (bvs s) 5 true)
theorem By.put {H:Heap} {b:Nat} {sv:Value} {s:Bytes} {x:Blk} (h:By H b sv s):By (H.put b x) b sv s:=by
 obtain ⟨a,c,h1,h2⟩:=h
 refine ⟨a,c,h1,fun hp=>?_⟩
 obtain ⟨bb,q1,q2,q3⟩:=h2 hp
 exact ⟨bb,q1,q2,(zaa q2).trans q3⟩
section
variable {H:Heap} {b:Nat} {sv:Value} {s:Bytes} {at_:Nat}
theorem zm1 (n:Int):Wf S 149 [.int .i64 n] H fun v H'=>H'=H∧v= .bool (decide (0≤n∧n≤32)):=by
 refine w149 rfl rfl _ ?_
 by_cases h:0≤n
 ·simp [s149,h]
 ·simp [s149,h]
theorem zjz (hg:H.get b=BrB sv at_) (hb:By H b sv s) (hs:s.length≤1000000) (hat:at_≤8*s.length):Wf S 206 [.pointer (some ⟨b,0,none⟩)] H fun v H'=>H'=H∧v= .int .i64 ((8*s.length - at_:Nat):Int):=by
 refine w206 rfl rfl _ ?_
 obtain ⟨a,c,rfl,_⟩:=hb
 have hg':H.get b= .cells [.slice a s.length c,.int .i64 at_] 265 true:=hg
 have h1:IntKind.i64.wrap (8*(s.length:Int))=8*s.length:=wi (by omega) (by omega)
 have h2:IntKind.i64.wrap (8*(s.length:Int) - at_)=((8*s.length - at_:Nat):Int):=by rw [wi (by omega) (by omega)];omega
 simp [s206,kEq,zac,hg',h1,h2]
theorem and7 (x:Nat) (h:x< 9223372036854775808):zat .and (.int .i64 x) (.int .i64 7)=some (.int .i64 ((x % 8:Nat):Int)):=by
 have:=zdN (k:= .i64) (a:=x) (b:=7) (by show x< 2 ^ 64;omega) (by decide)
 have e:x &&& 7=x % 8:=zdO x 3
 rw [e] at this
 have hw:IntKind.i64.wrap ((x % 8:Nat):Int)=((x % 8:Nat):Int):=wi (by omega) (by omega)
 rw [hw] at this
 exact this
theorem ze8 (hg:H.get b=BrB sv at_) (hb:By H b sv s) (hs:s.length≤1000000) (hat:at_≤8*s.length) (n:Nat) (hn:n≤32):
  Wf S 207 [.pointer (some ⟨b,0,none⟩),.int .i64 n] H fun v H'=>if at_+n≤8*s.length then v= .tuple #[.int .u32 (zax s at_ n:Nat),.bool true]∧H'=H.put b (BrB sv (at_+n)) else v= .tuple #[.int .u32 0,.bool false]∧H'=H:=by
 refine w207 rfl rfl _ _ ?_
 have hr1:decide (0≤(n:Int)∧(n:Int)≤32)=true:=by rw [decide_eq_true_eq];omega
 simp [s207,kEq]
 refine (zm1 (n:Int)).mono ?_
 rintro v H1 ⟨rfl,rfl⟩
 rw [hr1]
 simp
 refine (zjz hg hb hs hat).mono ?_
 rintro v H2 ⟨rfl,rfl⟩
 by_cases hfit:at_+n≤8*s.length
 ·have hlt:¬((8*s.length - at_:Nat):Int)< n:=by omega
  have hlt2:¬(8*s.length - at_< n):=by omega
  simp [hlt2,hfit]
  have hblt:b< H2.next:=zai hg
  refine l207_0 S (fun d e H'=>∃g:Nat,g≤n∧d=n - g∧H'=H2.put b (BrB sv (at_+g))∧e 0= .pointer (some ⟨b,0,none⟩)∧e 1= .int .i64 n∧e 6= .int .u32 (zax s at_ g:Nat)∧e 7= .int .i64 g) n ⟨0,by omega,by omega,(zcI hg).symm,by simp,by simp,by simp [zax],by simp⟩ ?_
  rintro d e H' ⟨g,hgn,rfl,rfl,e0,e1,e6,e7⟩
  by_cases h3:g< n
  ·obtain ⟨a,c,rfl,hbb⟩:=hb
   have hsl:0< s.length:=by omega
   obtain ⟨bb,rfl,hne,hgb⟩:=hbb hsl
   have hgp:(H2.put b (BrB (.slice (some ⟨bb,0,none⟩) s.length c) (at_+g))).get b= .cells [.slice (some ⟨bb,0,none⟩) s.length c,.int .i64 ((at_+g:Nat):Int)] 265 true:=zad hblt
   have hgbb:(H2.put b (BrB (.slice (some ⟨bb,0,none⟩) s.length c) (at_+g))).get bb= .cells (bvs s) 5 true:=(zaa hne).trans hgb
   have hpn:(H2.put b (BrB (.slice (some ⟨bb,0,none⟩) s.length c) (at_+g))).next=H2.next:=next_put
   generalize hHH:H2.put b (BrB (.slice (some ⟨bb,0,none⟩) s.length c) (at_+g))=HH at*
   obtain ⟨p,hp⟩:∃p,p=at_+g:=⟨_,rfl⟩
   rw [←hp] at hgp
   obtain ⟨q,hq⟩:∃q,q=p % 8:=⟨_,rfl⟩
   obtain ⟨k,hk⟩:∃k,k=min (n - g) (8 - q):=⟨_,rfl⟩
   obtain ⟨x,hx⟩:∃x,s[p / 8]? =some x:=⟨_,List.getElem?_eq_getElem (by omega)⟩
   have hxb:=x.toNat_lt
   have hgd:s.getD (p / 8) 0=x:=by rw [List.getD_eq_getElem?_getD,hx];rfl
   have hcx:(bvs s)[p / 8]? =some (.int .u8 x.toNat):=by simp [bvs,bv,hx]
   have ha7:=and7 p (by omega)
   rw [←hq] at ha7
   have hbyte:=zgI s p k (by omega)
   rw [hgd,←hq] at hbyte
   have hnl:=za6 s at_ g
   have hnk:=za6 s p k
   have hadd:=zcg s at_ g k
   rw [←hp] at hadd
   have hnkt:=za6 s at_ (g+k)
   have hk1:1≤k:=by omega
   have p32:2 ^ (g+k)≤2 ^ 32:=Nat.pow_le_pow_right (by omega) (by omega)
   have pg:2 ^ g≤2 ^ 32:=Nat.pow_le_pow_right (by omega) (by omega)
   have pk8:2 ^ k≤2 ^ 8:=Nat.pow_le_pow_right (by omega) (by omega)
   have pk0:0< 2 ^ k:=Nat.pow_pos (by omega)
   have e32:(2:Nat) ^ 32=4294967296:=by decide
   have e8:(2:Nat) ^ 8=256:=by decide
   have w1:IntKind.i64.wrap ((n:Int) - g)=(n:Int) - g:=wi (by omega) (by omega)
   have w2:IntKind.i64.wrap (8 - (q:Int))=8 - (q:Int):=wi (by omega) (by omega)
   have w3:min ((n:Int) - g) (8 - (q:Int))=(k:Int):=by omega
   have o1:zat .shr (.int .i64 (p:Int)) (.int .u64 3)=some (.int .i64 ((p / 8:Nat):Int)):=by
    rw [zcx,if_neg (by omega)]
    have hm:min (3:Int).toNat IntKind.i64.bits=3:=by decide
    rw [hm,Int.fdiv_eq_ediv_of_nonneg _ (by decide)]
    congr 2
   have hqb:min q IntKind.u8.bits=q:=by
    have:IntKind.u8.bits=8:=rfl
    omega
   have hdb:x.toNat / 2 ^ q≤x.toNat:=Nat.div_le_self _ _
   have o2:zat .shr (.int .u8 (x.toNat:Int)) (.int .i64 (q:Int))=some (.int .u8 ((x.toNat / 2 ^ q:Nat):Int)):=by
    rw [zcx,if_neg (by omega),Int.toNat_natCast,hqb,Int.fdiv_eq_ediv_of_nonneg _ (by exact_mod_cast Nat.zero_le (2 ^ q))]
    congr 2
   have w4:IntKind.u32.wrap ((x.toNat / 2 ^ q:Nat):Int)=((x.toNat / 2 ^ q:Nat):Int):=wu32 (Int.natCast_nonneg _) (by omega)
   have hkb:min k IntKind.u32.bits=k:=by
    have:IntKind.u32.bits=32:=rfl
    omega
   have hgb:min g IntKind.u32.bits=g:=by
    have:IntKind.u32.bits=32:=rfl
    omega
   obtain ⟨P,hP⟩:∃P,P=2 ^ k:=⟨_,rfl⟩
   have o3:zat .shl (.int .u32 1) (.int .i64 (k:Int))=some (.int .u32 (P:Int)):=by
    rw [zch,if_neg (by omega),Int.toNat_natCast,hkb,Int.one_mul]
    have:((2:Int) ^ k)=((P:Nat):Int):=by rw [hP];exact_mod_cast rfl
    rw [this,wu32 (by omega) (by omega)]
   have w5:IntKind.u32.wrap ((P:Int) - 1)=((P - 1:Nat):Int):=by rw [wu32 (by omega) (by omega)];omega
   obtain ⟨D,hD⟩:∃D,D=x.toNat / 2 ^ q:=⟨_,rfl⟩
   rw [←hD] at o2 w4 hbyte hdb
   obtain ⟨N,hN⟩:∃N,N=zax s p k:=⟨_,rfl⟩
   have o4:zat .and (.int .u32 (D:Int)) (.int .u32 ((P - 1:Nat):Int))=some (.int .u32 (N:Int)):=by
    rw [zdN (by show D< 2 ^ 32;omega) (by show P - 1< 2 ^ 32;omega),hP,zdO,←hbyte,←hN,wu32 (by omega) (by omega)]
   have o5:zat .shl (.int .u32 (N:Int)) (.int .i64 (g:Int))=some (.int .u32 ((N*2 ^ g:Nat):Int)):=by
    rw [zch,if_neg (by omega),Int.toNat_natCast,hgb]
    have:(N:Int)*2 ^ g=((N*2 ^ g:Nat):Int):=by exact_mod_cast rfl
    rw [this,wu32 (by omega) (by rw [hN];omega)]
   obtain ⟨M,hM⟩:∃M,M=N*2 ^ g:=⟨_,rfl⟩
   rw [←hM] at o5
   have hMt:M=zax s p k*2 ^ g:=by rw [hM,hN]
   rw [←hMt] at hadd
   have o6:zat .or (.int .u32 ((zax s at_ g:Nat):Int)) (.int .u32 (M:Int))=some (.int .u32 ((zax s at_ (g+k):Nat):Int)):=by
    rw [zf8 (by show _< 2 ^ 32;omega) (by show _< 2 ^ 32;omega),hMt,zeB hnl,←hMt,←hadd,wu32 (by omega) (by omega)]
   have w6:IntKind.i64.wrap ((g:Int)+k)=((g+k:Nat):Int):=by rw [wi (by omega) (by omega)];omega
   have w7:IntKind.i64.wrap ((p:Int)+k)=((p+k:Nat):Int):=by rw [wi (by omega) (by omega)];omega
   have hidx:(p / 8)< s.length:=by omega
   have hbl:b< HH.next:=by omega
   have hst:kSt HH (.pointer (some ⟨b,1,none⟩)) (.int .i64 ((p+k:Nat):Int))=some (HH.put b (BrB (.slice (some ⟨bb,0,none⟩) s.length c) (p+k))):=by
    simp only [kSt,hgp]
    rfl
   have hiad:∀{K:Kv},run S (.iad 1 (.c (.slice (some ⟨bb,0,none⟩) s.length c)) (.c (.int .i64 ((p / 8:Nat):Int)))) [] HH K=K (.pointer (some ⟨bb,p / 8,none⟩)) HH:=fun {K}=>by
    rw [zog,if_pos (by omega)];simp only [zac,Int.toNat_natCast,Nat.mul_one,Nat.zero_add]
   obtain ⟨j,hj⟩:∃j,j=p / 8:=⟨_,rfl⟩
   rw [←hj] at o1 hcx hidx
   simp [s207_0,e0,e1,e6,e7,h3,zac,hgp,hgbb,ha7,w1,w2,w3,w4,w5,w6,w7,o1,o2,o3,o4,o5,o6,hidx,hcx]
   rw [Int.natCast_add] at hst
   rw [hst]
   simp
   refine ⟨n - (g+k),by omega,g+k,by omega,rfl,?_,rfl,by simp⟩
   rw [←hHH,zbi,hp,Nat.add_assoc]
  ·have h5:g=n:=by omega
   subst h5
   simp [s207_0,e1,e6,e7,tup]
 ·have hlt:((8*s.length - at_:Nat):Int)< n:=by omega
  have hlt2:8*s.length - at_< n:=by omega
  simp [hlt2,hfit,tup]
end
def zb8 (s:Bytes) (at_:Nat):Nat→Nat
 |0=>0
 |n+1=>2*zb8 s at_ n+za1 s (at_+n)
theorem zfK (s:Bytes) (a:Nat):∀n,zb8 s a n< 2 ^ n
 |0=>by simp [zb8]
 |n+1=>by have:=zfK s a n;have:=zcf s (a+n);simp only [zb8,Nat.pow_succ];omega
theorem ziy (s:Bytes) (a:Nat):zax s a 1=za1 s a:=by simp [zax]
def Hit (F C:Nat→Nat) (s:Bytes) (at_ n:Nat):Prop:=F n≤zb8 s at_ n∧zb8 s at_ n< F n+C n
def Rx (H:Heap) (x b:Nat) (F C St:Nat→Nat) (o:Bytes):Prop:=∃cs oa oc,H.get x= .cells cs 311 true∧x≠b∧(∀n,n≤12→cs[n]? =some (.int .i64 (F n)))∧(∀n,n≤12→cs[13+n]? =some (.int .i64 (C n)))∧(∀n,n≤12→cs[26+n]? =some (.int .i64 (St n)))∧cs[39]? =some (.slice oa o.length oc)∧(0< o.length→∃ob,oa=some ⟨ob,0,none⟩∧ob≠b∧H.get ob= .cells (bvs o) 5 true)
theorem Rx.put {H:Heap} {x b:Nat} {F C St:Nat→Nat} {o:Bytes} {y:Blk} (h:Rx H x b F C St o):Rx (H.put b y) x b F C St o:=by
 obtain ⟨cs,oa,oc,h1,h2,h3,h4,h5,h6,h7⟩:=h
 refine ⟨cs,oa,oc,(zaa h2).trans h1,h2,h3,h4,h5,h6,fun hp=>?_⟩
 obtain ⟨ob,q1,q2,q3⟩:=h7 hp
 exact ⟨ob,q1,q2,(zaa q2).trans q3⟩
section
variable {H:Heap} {b x:Nat} {sv:Value} {s o:Bytes} {at_:Nat} {F C St:Nat→Nat}
structure zrV (H:Heap) (b x:Nat) (sv:Value) (s:Bytes) (at_:Nat) (F C:Nat→Nat) (d:Nat) (e:Nat→Value) (H':Heap) (m:Nat):Prop where
 h1:m≤11
 h2:d=11 - m
 h3:at_+m≤8*s.length
 h4:H'=H.put b (BrB sv (at_+m))
 h5:∀i,1≤i→i≤m→¬Hit F C s at_ i
 e0:e 0= .pointer (some ⟨x,0,none⟩)
 e1:e 1= .pointer (some ⟨b,0,none⟩)
 e6:e 6= .int .i64 (zb8 s at_ m:Nat)
 e7:e 7= .int .i64 ((m+1:Nat):Int)
theorem zqN (hx:Rx H x b F C St o) (hg:H.get b=BrB sv at_) (hb:By H b sv s) (hs:s.length≤1000000) (hat:at_≤8*s.length)
  (hF:∀n,n≤12→F n≤100000) (hC:∀n,n≤12→C n≤1000) (hSt:∀n,n≤12→St n+C n≤o.length) (ho:o.length≤100000):
  Wf S 236 [.pointer (some ⟨x,0,none⟩),.pointer (some ⟨b,0,none⟩)] H fun v H'=>
   (∃n,n+1≤11∧at_+(n+1)≤8*s.length∧(∀i,1≤i→i≤n→¬Hit F C s at_ i)∧Hit F C s at_ (n+1)∧v= .tuple #[bv (o.getD (St (n+1)+(zb8 s at_ (n+1) - F (n+1))) 0),.bool true]∧H'=H.put b (BrB sv (at_+(n+1))))∨
   (v= .tuple #[.int .u8 0,.bool false]∧∃m,m≤11∧(∀i,1≤i→i≤m→¬Hit F C s at_ i)∧(m=11∨8*s.length< at_+(m+1))∧H'=H.put b (BrB sv (at_+m))):=by
 refine w236 rfl rfl _ _ ?_
 simp [s236]
 have hblt:b< H.next:=zai hg
 refine l236_0 S (fun d e H'=>∃m,zrV H b x sv s at_ F C d e H' m) 11 ⟨0,by omega,by omega,by omega,(zcI hg).symm,by omega,by simp,by simp,by simp [zb8],by simp⟩ ?_
 rintro d e H' ⟨m,h1,rfl,h3,rfl,h5,e0,e1,e6,e7⟩
 have hr:=zfK s at_ m
 have p11:2 ^ m≤2 ^ 11:=Nat.pow_le_pow_right (by omega) h1
 have e11:(2:Nat) ^ 11=2048:=by decide
 by_cases h6:m< 11
 ·have h6':(m:Int)+1≤11:=by omega
  simp [s236_0,e0,e1,e6,e7,h6']
  have hg2:(H.put b (BrB sv (at_+m))).get b=BrB sv (at_+m):=zad hblt
  refine (ze8 hg2 hb.put hs h3 1 (by omega)).mono ?_
  intro v H2 hv
  by_cases hfit:at_+m+1≤8*s.length
  ·rw [if_pos hfit] at hv
   obtain ⟨rfl,rfl⟩:=hv
   rw [zbi,ziy]
   obtain ⟨bit,hbit⟩:∃bit,bit=za1 s (at_+m):=⟨_,rfl⟩
   obtain ⟨R,hR⟩:∃R,R=zb8 s at_ m:=⟨_,rfl⟩
   obtain ⟨N,hN⟩:∃N,N=zb8 s at_ (m+1):=⟨_,rfl⟩
   have hNR:N=2*R+bit:=by rw [hN,hR,hbit];rfl
   have hb2:bit< 2:=by rw [hbit];exact zcf _ _
   rw [←hR] at hr e6
   rw [←hbit]
   have hput:=hx.put (y:=BrB sv (at_+m+1))
   have e01:at_+m+1=at_+(m+1):=rfl
   obtain ⟨HH,hHH⟩:∃HH,HH=H.put b (BrB sv (at_+m+1)):=⟨_,rfl⟩
   rw [←hHH] at hput⊢
   obtain ⟨cs,oa,oc,g1,g2,g3,g4,g5,g6,g7⟩:=hput
   have hf1:=g3 (m+1) (by omega)
   have hc1:=g4 (m+1) (by omega)
   have hs1:=g5 (m+1) (by omega)
   have bF:=hF (m+1) (by omega)
   have bC:=hC (m+1) (by omega)
   have bS:=hSt (m+1) (by omega)
   obtain ⟨f,hf⟩:∃f,f=F (m+1):=⟨_,rfl⟩
   obtain ⟨c,hc⟩:∃c,c=C (m+1):=⟨_,rfl⟩
   obtain ⟨st,hst⟩:∃st,st=St (m+1):=⟨_,rfl⟩
   rw [←hf] at hf1 bF
   rw [←hc] at hc1 bC bS
   rw [←hst] at hs1 bS
   have hhit:Hit F C s at_ (m+1)↔f≤N∧N< f+c:=by unfold Hit;rw [←hN,←hf,←hc]
   have o1:zat .shl (.int .i64 (R:Int)) (.int .u64 1)=some (.int .i64 ((2*R:Nat):Int)):=by
    rw [zch,if_neg (by omega)]
    have hm:min (1:Int).toNat IntKind.i64.bits=1:=by decide
    rw [hm,wi (by omega) (by omega)]
    congr 2;omega
   have w2:IntKind.i64.wrap (bit:Int)=bit:=wi (by omega) (by omega)
   have o2:zat .or (.int .i64 ((2*R:Nat):Int)) (.int .i64 (bit:Int))=some (.int .i64 (N:Int)):=by
    have hor:=zeB (v:=bit) (g:=1) (p:=R) (by omega)
    rw [zf8 (by show _< 2 ^ 64;omega) (by show _< 2 ^ 64;omega),Nat.or_comm,show 2*R=R*2 ^ 1 from by omega,hor,wi (by omega) (by omega)]
    congr 3;omega
   have w3:IntKind.i64.wrap ((N:Int) - f)=(N:Int) - f:=wi (by omega) (by omega)
   simp at o1 o2
   have m0:(0:Int)≤(m:Int)+1:=by omega
   have m13:(m:Int)+1< 13:=by omega
   have wm:IntKind.i64.wrap ((m:Int)+1+1)=(m:Int)+1+1:=wi (by omega) (by omega)
   have cn:((m:Int)+1).toNat=m+1:=by omega
   by_cases hh:f≤N
   ·obtain ⟨D,hD⟩:∃D,D=N - f:=⟨_,rfl⟩
    have hDi:(N:Int) - f=(D:Int):=by omega
    have w3:=w3.trans hDi
    by_cases hk:D< c
    ·obtain ⟨j,hj⟩:∃j,j=st+D:=⟨_,rfl⟩
     have hjl:j< o.length:=by omega
     have w4:IntKind.i64.wrap ((st:Int)+D)=(j:Int):=by rw [wi (by omega) (by omega)];omega
     obtain ⟨ob,rfl,q2,q3⟩:=g7 (by omega)
     have hcx:(bvs o)[j]? =some (bv (o.getD j 0)):=by simp [bvs,bv,List.getElem?_eq_getElem hjl]
     simp [e0,e6,e7,m0,m13,cn,o1,o2,w2,w3,w4,g1,zac,hf1,hc1,hs1,hk,tup,g6,q3,hjl,hcx]
     refine ⟨m,by omega,by omega,h5,hhit.2 ⟨hh,by omega⟩,?_,hHH⟩
     rw [←hN,←hf,←hst,←hD,←hj]
     simp [List.getElem?_eq_getElem hjl]
    ·simp [e0,e6,e7,m0,m13,cn,o1,o2,w2,w3,g1,zac,hf1,hc1,hs1,hk,tup]
     refine ⟨11 - (m+1),by omega,m+1,by omega,rfl,by omega,hHH,fun i i1 i2=>?_,by simp [e0],by simp [e1],by simp [←hN],by simp [wm]⟩
     by_cases i3:i=m+1
     ·subst i3;rw [hhit];omega
     ·exact h5 i i1 (by omega)
   ·simp [e0,e6,e7,m0,m13,cn,o1,o2,w2,w3,hh,g1,zac,hf1,hc1,hs1,tup]
    refine ⟨11 - (m+1),by omega,m+1,by omega,rfl,by omega,hHH,fun i i1 i2=>?_,by simp [e0],by simp [e1],by simp [←hN],by simp [wm]⟩
    by_cases i3:i=m+1
    ·subst i3;rw [hhit];omega
    ·exact h5 i i1 (by omega)
  ·rw [if_neg hfit] at hv
   obtain ⟨rfl,rfl⟩:=hv
   simp [tup]
   exact ⟨m,h1,h5,.inr (by omega),rfl⟩
 ·have h7:m=11:=by omega
  subst h7
  simp [s236_0,e0,e1,e6,e7,tup]
  exact ⟨11,by omega,h5,.inl rfl,rfl⟩
end
section
variable {H:Heap} {s:Bytes}
theorem zcq {a:Option Addr} {c:Nat} (hr:zaJ H 5 1 s.length a=some (bvs s)) (hs:s.length≤1000000):
  Wf S 163 [.slice a s.length c] H fun v H'=>∃sv b,v= .pointer (some ⟨b,0,none⟩)∧H.next≤b∧b< H'.next∧H'.get b=BrB sv 0∧By H' b sv s∧Kp H.next H H':=by
 refine w163 rfl rfl _ ?_
 have hrm:s.length≤zag:=by unfold zag;omega
 by_cases h0:s.length=0
 ·have hs0:s= []:=List.eq_nil_of_length_eq_zero h0
  subst hs0
  simp at hr
  simp [s163,hr,zbl,zaC,zaQ,zaw,cellsL,wr]
  refine ⟨.slice none 0 0,rfl,⟨none,0,rfl,fun h=>by simp at h⟩,by simp,fun k hk=>zae hk⟩
 ·simp [s163,hr,zbl,h0,hrm,zaC,zaQ,zaw,cellsL,wr]
  refine ⟨.slice (some ⟨H.next,0,none⟩) s.length zas,rfl,⟨some ⟨H.next,0,none⟩,zas,rfl,fun h=>⟨H.next,rfl,by omega,?_⟩⟩,by simp;omega,fun k hk=>?_⟩
  ·rw [zae (by simp)];simp
  ·rw [zae (by simp;omega),zae hk]
end
set_option maxHeartbeats 4000000
structure WiI (H0:Heap) (x d:Nat) (e:Fe) (H:Heap) (n:Nat):Prop where
 hH:H=H0
 e0:e 0= .int .u32 d
 e3:e 3= .int .i64 n
 hs:n+wd d=wd x
 hd:d< 2 ^ 32
 hn:n≤32
 hdn:d*2 ^ n≤x
section
variable {H:Heap}
theorem ziz (x:Nat) (hx:x< 2 ^ 32):Wf S 242 [.int .u32 x] H fun v H'=>H'=H∧v= .int .i64 (wd x):=by
 refine w242 rfl rfl _ ?_
 simp [s242]
 refine l242_0 S (fun d e H'=>∃n:Nat,WiI H x d e H' n) x ⟨0,rfl,by simp,by simp,by omega,hx,by omega,by simp⟩ ?_
 rintro d e H1 ⟨n,rfl,e0,e3,hs,hd,hn,hdn⟩
 by_cases h:0< d
 ·have hst:=zhs h hd
  have h':(0:Int)< d:=by omega
  have hn32:n< 32:=by
   rcases Nat.lt_or_ge n 32 with h1|h1
   ·exact h1
   ·exfalso
    have:2 ^ 32≤2 ^ n:=Nat.pow_le_pow_right (by omega) h1
    have h2:1*2 ^ n≤d*2 ^ n:=Nat.mul_le_mul_right _ h
    omega
  have w1:IntKind.u32.wrap ((d:Int) / 2)=((d / 2:Nat):Int):=by
   simp [IntKind.wrap,IntKind.signed,IntKind.bits];omega
  have w2:IntKind.i64.wrap ((n:Int)+1)=(n:Int)+1:=wi (by omega) (by omega)
  have t1:(d:Int).tdiv 2=(d:Int) / 2:=Int.tdiv_eq_ediv_of_nonneg (by omega)
  simp [s242_0,e0,e3,h,h',t1,w1,w2]
  refine ⟨d / 2,by omega,n+1,rfl,by simp,by simp,by omega,by omega,by omega,?_⟩
  rw [Nat.pow_succ]
  have:d / 2*2≤d:=by omega
  calc d / 2*(2 ^ n*2)=(d / 2*2)*2 ^ n:=by rw [Nat.mul_comm (2 ^ n) 2,Nat.mul_assoc]
   _≤d*2 ^ n:=Nat.mul_le_mul_right _ this
   _≤x:=hdn
 ·have h5:d=0:=by omega
  subst h5
  have:wd 0=0:=rfl
  simp [s242_0,e0,e3]
  omega
theorem zm2 (x:Nat) (hx:x< 256):Wf S 148 [.int .u32 x] H fun v H'=>H'=H∧v= .int .i64 (wd x):=by
 have h1:¬(65536:Int)≤x:=by omega
 have h2:¬(256:Int)≤x:=by omega
 have h1':¬65536≤x:=by omega
 have h2':¬256≤x:=by omega
 have w1:IntKind.u8.wrap (x:Int)=x:=by
  simp [IntKind.wrap,IntKind.signed,IntKind.bits];omega
 refine w148 rfl rfl _ ?_
 simp [s148]
 refine w183 rfl rfl _ ?_
 simp [s183,h1,h2,h1',h2',w1]
 have hk:=zmJ ⟨x,hx⟩
 have hle:=zpq ⟨x,hx⟩
 simp only at hk hle
 rw [hk]
 have hm:(wd x) % 256=wd x:=by omega
 have w2:IntKind.i64.wrap (wd x:Int)=wd x:=wi (by omega) (by omega)
 simp [hm,w2]
end
set_option maxHeartbeats 2000000
theorem wu8' {x:Int} (h0:0≤x) (h1:x< 256):IntKind.u8.wrap x=x:=by
 simp [IntKind.wrap,IntKind.signed,IntKind.bits];omega
theorem pow128_2 (i:Nat):128 ^ i=2 ^ (7*i):=by rw [show (128:Nat)=2 ^ 7 from by decide,←Nat.pow_mul]
section
variable {H:Heap} {b:Nat} {l:Bytes} {bad:Bool}
structure RgI (H0:Heap) (v0:Nat) (d:Nat) (e:Fe) (H:Heap) (v:Nat):Prop where
 h1:d=v
 h2:v< 18446744073709551616
 kp:Kp H0.next H0 H
 p:∃p,e 3= .string (ofL p)∧p++grp v=grp v0
 e0:e 0= .int .u64 (v:Int)
theorem ziA {H:Heap} {K:Kv} {x:Nat} (hx:x< 256):run S (.b2s 5 (.c (.slice (some ⟨H.next,0,none⟩) 1 1))) [] (H.push (.cells [.int .u8 x] 5 true)) K=K (.string (ofL [UInt8.ofNat x])) (H.push (.cells [.int .u8 x] 5 true)):=by
 have hn:(UInt8.ofNat x).toNat=x:=by simp;omega
 have:zaJ (H.push (.cells [.int .u8 x] 5 true)) 5 1 [UInt8.ofNat x].length (some ⟨H.next,0,none⟩)=some (bvs [UInt8.ofNat x]):=by
  simp [zaJ,rd,bvs,bv,hn]
 exact zfm this
theorem zm3 (v:Nat) (hv:v< 18446744073709551616):Wf S 57 [.int .u64 v] H fun r H'=>Kp H.next H H'∧r= .string (ofL (grp v)):=by
 refine w57 rfl rfl _ ?_
 simp [s57]
 refine l57_0 S (fun d e H'=>∃u,RgI H v d e H' u) v ⟨v,rfl,hv,Kp.refl _ _,⟨[],by simp [zan],rfl⟩,by simp⟩ ?_
 rintro d e H' ⟨u,rfl,hu,hk,⟨p,e3,hp⟩,e0⟩
 have hgl:=zk7 (v:=v) (by omega)
 have hll:=congrArg List.length hp
 have hgp:=zfr d
 rw [List.length_append] at hll
 by_cases h3:128≤d
 ·obtain ⟨q,hq⟩:∃q,q=d % 128:=⟨_,rfl⟩
  obtain ⟨x,hx⟩:∃x,x=d % 128+128:=⟨_,rfl⟩
  obtain ⟨y,hy⟩:∃y,y=d / 128:=⟨_,rfl⟩
  have t1:(d:Int).tmod 128=(q:Int):=by rw [Int.tmod_eq_emod_of_nonneg (by omega)];omega
  have t2:(d:Int).tdiv 128=(y:Int):=by rw [Int.tdiv_eq_ediv_of_nonneg (by omega)];omega
  have w1:IntKind.u64.wrap ((q:Int)+128)=(x:Int):=by rw [wu64 (by omega) (by omega)];omega
  have w2:IntKind.u8.wrap (x:Int)=(x:Int):=wu8' (by omega) (by omega)
  have w3:IntKind.u64.wrap (y:Int)=(y:Int):=wu64 (by omega) (by omega)
  have ho:=fun K=>ziA (H:=H') (K:=K) (x:=x) (by omega)
  have ha:=zf7 (l:=p) (m:= [UInt8.ofNat x]) (by simp;omega)
  have h3':(128:Int)≤d:=by omega
  simp [s57_0,e0,e3,h3',t1,t2,w1,w2,w3,zaC,zaQ,zaw,cellsL,wr,ho,ha]
  refine ⟨y,by omega,y,rfl,by omega,hk.trans (Kp.push hk.1),⟨p++ [UInt8.ofNat x],by simp,?_⟩,by simp⟩
  rw [←hp,zdx (v:=d) (by omega),←hx,←hy];simp
 ·have h3':¬(128:Int)≤d:=by omega
  have w2:IntKind.u8.wrap (d:Int)=(d:Int):=wu8' (by omega) (by omega)
  have ho:=fun K=>ziA (H:=H') (K:=K) (x:=d) (by omega)
  have ha:=zf7 (l:=p) (m:= [UInt8.ofNat d]) (by simp;omega)
  simp [s57_0,e0,e3,h3',w2,zaC,zaQ,zaw,cellsL,wr,ho,ha]
  refine ⟨hk.trans (Kp.push hk.1),?_⟩
  rw [←hp,zeE (v:=d) (by omega)]
structure GrI (H0:Heap) (b:Nat) (l:Bytes) (d:Nat) (e:Fe) (H:Heap) (i:Nat):Prop where
 h1:i≤9
 h2:d=10 - i
 h3:i≤l.length
 a:∃acc:Nat,e 3= .int .u64 (acc:Int)∧acc< 128 ^ i∧pG 0 l=(pG i (l.drop i)).map fun p:Nat×Bytes=>(acc+128 ^ i*p.1,p.2)
 hH:H=H0.put b (RdB (l.drop i) false)
 e0:e 0= .pointer (some ⟨b,0,none⟩)
 e7:e 7= .int .i64 i
theorem zkq (h:Rd H b l bad):Wf S 89 [.pointer (some ⟨b,0,none⟩)] H fun v H'=>v= .int .u64 (gvN (zau l bad))∧H'=H.put b (RdB (grL (zau l bad)) (zau l bad).isNone):=by
 have hlt:=h.lt
 refine w89 rfl rfl _ ?_
 simp [s89]
 cases bad with
 |true=>
  refine u89_0 S ?_
  simp [s89_0]
  refine (zcL h 1).mono ?_
  rintro v H1 ⟨rfl,rfl⟩
  simp [zar,zaE,zav,zau,gvN,grL,zan,zeA]
 |false=>
  have hp:H=H.put b (RdB (l.drop 0) false):=(zcI h).symm
  refine l89_0 S (fun d e H'=>∃i,GrI H b l d e H' i) 10 ⟨0,by omega,by omega,by omega,⟨0,by simp,by simp,by rw [List.drop_zero];cases pG 0 l with|none=>rfl|some p=>simp⟩,hp,by simp,by simp⟩ ?_
  rintro d e H' ⟨i,hi,rfl,hil,⟨acc,e3,hacc,hpg⟩,rfl,e0,e7⟩
  have hrd:Rd (H.put b (RdB (l.drop i) false)) b (l.drop i) false:=zaZ hlt
  have h3':(i:Int)< 10:=by omega
  have w2:IntKind.i64.wrap ((i:Int)+1)=(i:Int)+1:=wi (by omega) (by omega)
  simp [s89_0,e0,e3,e7,h3']
  refine (zcL hrd 1).mono ?_
  rintro v H1 ⟨rfl,rfl⟩
  rw [zbi]
  rcases Nat.lt_or_ge i l.length with hlen|hlen
  ·obtain ⟨x,hx⟩:∃x,l[i]? =some x:=⟨_,List.getElem?_eq_getElem hlen⟩
   have hd:l.drop i=x::l.drop (i+1):=by
    rw [List.drop_eq_getElem_cons hlen]
    have:=List.getElem?_eq_getElem hlen
    rw [hx] at this;cases this;rfl
   have hxb:=x.toNat_lt
   have r1:zar (l.drop i) false 1= [x]:=by simp [zar,hd]
   have r2:zaE (l.drop i) false 1=l.drop (i+1):=by simp [zaE,hd]
   have r3:zav (l.drop i) false 1=false:=by simp [zav,hd]
   have e1:(1:Int).toNat=1:=rfl
   rw [e1,r1,r2,r3]
   rw [hd] at hpg
   obtain ⟨c,hc⟩:∃c,c=x.toNat:=⟨_,rfl⟩
   rw [←hc] at hxb
   have hat:∀(K:Kv) (H:Heap),run S (.idS (.c (.string (ofL [x]))) (.c (.int .i64 0))) [] H K=K (.int .u8 (c:Int)) H:=fun K H=>by
    have:=s_at (S:=S) (e:= []) (H:=H) (K:=K) (l:= [x]) (k:= .i64) (i:=0) (b:=x) rfl
    rw [hc];exact this
   have wc:IntKind.u64.wrap (c:Int)=c:=wu64 (by omega) (by omega)
   have hne:((ofL [x]).toList==(ofL []).toList)=false:=by rw [zaP,zaP];rfl
   have hrd2:Rd (H.put b (RdB (l.drop (i+1)) false)) b (l.drop (i+1)) false:=zaZ hlt
   simp only [pG] at hpg
   rw [←hc] at hpg
   obtain ⟨m,hm⟩:∃m,m=c % 128:=⟨_,rfl⟩
   have oa:zat .and (.int .u64 (c:Int)) (.int .u64 127)=some (.int .u64 (m:Int)):=by
    have h:=zdN (k:= .u64) (a:=c) (b:=127) (by show c< 2 ^ 64;omega) (by decide)
    have e:c &&& 127=m:=by rw [hm];exact zdO c 7
    rw [e,wu64 (by omega) (by omega)] at h
    exact h
   have wm:IntKind.i64.wrap (7*(i:Int))=((7*i:Nat):Int):=by rw [wi (by omega) (by omega)];omega
   have hib:min (7*i) IntKind.u64.bits=7*i:=by
    have:IntKind.u64.bits=64:=rfl
    omega
   rw [pow128_2] at hacc
   have fit:(i=9→c≤1)→m*2 ^ (7*i)+2 ^ (7*i)≤18446744073709551616:=fun hh=>by
    have e64:(2:Nat) ^ 64=18446744073709551616:=by decide
    by_cases e:i=9
    ·subst e
     have:m≤1:=by have:=hh rfl;omega
     have e63:(2:Nat) ^ (7*9)=9223372036854775808:=by decide
     rw [e63];omega
    ·have h1:(m+1)*2 ^ (7*i)≤128*2 ^ (7*i):=Nat.mul_le_mul_right _ (by omega)
     have h2:128*2 ^ (7*i)=2 ^ (7*i+7):=by rw [Nat.pow_add];omega
     have h3:2 ^ (7*i+7)≤2 ^ 64:=Nat.pow_le_pow_right (by omega) (by omega)
     rw [Nat.succ_mul] at h1;omega
   have os:(i=9→c≤1)→zat .shl (.int .u64 (m:Int)) (.int .i64 ((7*i:Nat):Int))=some (.int .u64 ((m*2 ^ (7*i):Nat):Int)):=fun hh=>by
    have:=fit hh
    have hp0:0< 2 ^ (7*i):=Nat.pow_pos (by omega)
    rw [zch,if_neg (by omega),Int.toNat_natCast,hib]
    have e:(m:Int)*2 ^ (7*i)=((m*2 ^ (7*i):Nat):Int):=by exact_mod_cast rfl
    rw [e,wu64 (by omega) (by omega)]
   have oo:(i=9→c≤1)→zat .or (.int .u64 (acc:Int)) (.int .u64 ((m*2 ^ (7*i):Nat):Int))=some (.int .u64 ((acc+m*2 ^ (7*i):Nat):Int)):=fun hh=>by
    have:=fit hh
    have hp0:0< 2 ^ (7*i):=Nat.pow_pos (by omega)
    rw [zf8 (by show _< 2 ^ 64;omega) (by show _< 2 ^ 64;omega),zeB hacc,wu64 (by omega) (by omega)]
   obtain ⟨q,hq⟩:∃q,q=7*i:=⟨_,rfl⟩
   have hpw:128 ^ i=2 ^ q:=by rw [pow128_2,hq]
   rw [←hq] at wm os oo hacc
   rw [hpw] at hpg
   obtain ⟨y,hy⟩:∃y,y=m*2 ^ q:=⟨_,rfl⟩
   rw [←hy] at os oo
   obtain ⟨z,hz⟩:∃z,z=acc+y:=⟨_,rfl⟩
   rw [←hz] at oo
   by_cases i9:(i:Int)=9
   ·have i9':i=9:=by omega
    subst i9'
    have w63:IntKind.i64.wrap 63=63:=by decide
    by_cases c1:(1:Int)< c
    ·rw [if_pos (by omega)] at hpg
     have hgo:zau l false=none:=by simpa [zau] using hpg
     rw [hgo]
     have c1':1< c:=by omega
     simp [zan,hne,hat,wc,c1,c1',e0]
     refine (zc7 hrd2).mono ?_
     rintro v H2 rfl
     rw [zbi]
     simp [gvN,grL]
    ·by_cases c0:(c:Int)=0
     ·rw [if_pos (by omega)] at hpg
      have hgo:zau l false=none:=by simpa [zau] using hpg
      rw [hgo]
      have c0':c=0:=by omega
      have wz:IntKind.u64.wrap 0=0:=by decide
      simp [zan,hne,hat,wc,wz,c1,c0',e0]
      refine (zc7 hrd2).mono ?_
      rintro v H2 rfl
      rw [zbi]
      simp [gvN,grL]
     ·rw [if_neg (by omega),if_pos (by omega)] at hpg
      have c0':¬c=0:=by omega
      have c1':¬1< c:=by omega
      have c2:c< 128:=by omega
      have c2':(c:Int)< 128:=by omega
      have os:=os (fun _=>by omega)
      have oo:=oo (fun _=>by omega)
      have os63:zat .shl (.int .u64 (m:Int)) (.int .i64 63)=some (.int .u64 (y:Int)):=by
       have h:=os
       rw [hq] at h
       exact h
      have hgo:zau l false=some (z,l.drop (9+1)):=by
       have:m=c:=by omega
       simp only [zau,Bool.false_eq_true,if_false,hpg,Option.map_some,hz,hy,this,Nat.mul_comm (2 ^ q)]
      rw [hgo]
      simp [zan,hne,hat,wc,c1,c1',c0',c2,c2',oa,w63,os63,oo,e3]
      simp [gvN,grL]
   ·by_cases c0:0< i∧c=0
    ·rw [if_pos (by omega)] at hpg
     have hgo:zau l false=none:=by simpa [zau] using hpg
     rw [hgo]
     obtain ⟨c0',c0⟩:=c0
     have wz:IntKind.u64.wrap 0=0:=by decide
     simp [zan,hne,hat,wc,wz,i9,c0,c0',e0]
     refine (zc7 hrd2).mono ?_
     rintro v H2 rfl
     rw [zbi]
     simp [gvN,grL]
    ·rw [if_neg (by omega)] at hpg
     have hcc:(decide (0< i) && decide (c=0))=false:=by simp only [Bool.and_eq_false_iff,decide_eq_false_iff_not];omega
     have os:=os (fun e=>by omega)
     have oo:=oo (fun e=>by omega)
     by_cases c2:c< 128
     ·rw [if_pos c2] at hpg
      have c2':(c:Int)< 128:=by omega
      have hgo:zau l false=some (z,l.drop (i+1)):=by
       have:m=c:=by omega
       simp only [zau,Bool.false_eq_true,if_false,hpg,Option.map_some,hz,hy,this,Nat.mul_comm (2 ^ q)]
      rw [hgo]
      by_cases i0:0< i
      ·have c0':¬c=0:=by omega
       simp [zan,zeA,hne,hat,wc,i9,i0,c0',c2,c2',oa,wm,os,oo,e3,e7]
       simp [gvN,grL]
      ·simp [zan,zeA,hne,hat,wc,i9,i0,c2,c2',oa,wm,os,oo,e3,e7]
       simp [gvN,grL]
     ·rw [if_neg c2] at hpg
      have c2':¬(c:Int)< 128:=by omega
      have c0':¬c=0:=by omega
      have fin:GrI H b l (10 - (i+1)) e H (i+1)→True:=fun _=>trivial
      have hzb:z< 128 ^ (i+1):=by
       have h1:(m+1)*2 ^ q≤128*2 ^ q:=Nat.mul_le_mul_right _ (by omega)
       rw [Nat.pow_succ,hpw,Nat.mul_comm (2 ^ q)]
       rw [Nat.succ_mul] at h1;omega
      have hpz:pG 0 l=(pG (i+1) (l.drop (i+1))).map fun p:Nat×Bytes=>(z+128 ^ (i+1)*p.1,p.2):=by
       rw [hpg,Option.map_map]
       congr 1
       funext p
       simp only [Function.comp,Prod.mk.injEq,and_true]
       rw [Nat.pow_succ,hpw,hz,hy,←hm,Nat.mul_add,Nat.mul_comm (2 ^ q) m,Nat.mul_assoc];omega
      have:∀i0:Prop,True:=fun _=>trivial
      by_cases i0:0< i
      ·simp [zan,zeA,hne,hat,wc,i9,i0,c0',c2,c2',oa,wm,os,oo,e3,e7,w2]
       exact ⟨10 - (i+1),by omega,i+1,by omega,rfl,by omega,⟨z,by simp,hzb,hpz⟩,rfl,by simp [e0],by simp⟩
      ·simp [zan,zeA,hne,hat,wc,i9,i0,c2,c2',oa,wm,os,oo,e3,e7,w2]
       exact ⟨10 - (i+1),by omega,i+1,by omega,rfl,by omega,⟨z,by simp,hzb,hpz⟩,rfl,by simp [e0],by simp⟩
  ·have hd:l.drop i= []:=List.drop_of_length_le hlen
   rw [hd] at hpg⊢
   have hgo:zau l false=none:=by simpa [zau,pG] using hpg
   rw [hgo]
   simp [zar,zaE,zav,gvN,grL,zan,zeA]
end
section
variable {H:Heap} {b:Nat} {l:Bytes} {bad:Bool}
theorem zeI (h:Rd H b l bad) (most:Nat) (hm:most≤4611686018427387904):Wf S 60 [.pointer (some ⟨b,0,none⟩),.int .i64 most] H fun v H'=>v= .int .i64 (gvN (zam l bad most))∧H'=H.put b (RdB (grL (zam l bad most)) (zam l bad most).isNone):=by
 have hlt:=h.lt
 refine w60 rfl rfl _ _ ?_
 simp [s60]
 refine (zkq h).mono ?_
 rintro v H1 ⟨rfl,rfl⟩
 have hrd:Rd (H.put b (RdB (grL (zau l bad)) (zau l bad).isNone)) b (grL (zau l bad)) (zau l bad).isNone:=zaZ hlt
 try simp
 refine (zbc hrd).mono ?_
 rintro v H2 ⟨rfl,rfl⟩
 cases ho:zau l bad with
 |none=>
  rw [ho] at hrd
  have hi:zam l bad most=none:=by simp [zam,ho]
  simp
  refine (zc7 hrd).mono ?_
  rintro v H3 rfl
  rw [zbi,hi]
  simp [gvN,grL]
 |some p=>
  rw [ho] at hrd
  have hp64:p.1< 2 ^ 64:=by
   cases bad with
   |true=>simp [zau] at ho
   |false=>
    have:pG 0 l=some (p.1,p.2):=by simpa [zau] using ho
    have:=zd4 this (by omega)
    simpa using this
  have hn0:¬(most:Int)< 0:=by omega
  have w1:IntKind.u64.wrap (most:Int)=most:=wu64 (by omega) (by omega)
  by_cases hle:p.1≤most
  ·have hi:zam l bad most=some p:=by simp [zam,ho,hle]
   have h1:¬most< p.1:=by omega
   have h1':¬(most:Int)< p.1:=by omega
   have w2:IntKind.i64.wrap (p.1:Int)=p.1:=wi (by omega) (by omega)
   simp [hn0,w1,gvN,h1,h1',w2]
   rw [hi]
   simp [gvN,grL]
  ·have hi:zam l bad most=none:=by simp [zam,ho,hle]
   have h1:most< p.1:=by omega
   have h1':(most:Int)< p.1:=by omega
   simp [hn0,w1,gvN,h1,h1']
   refine (zc7 hrd).mono ?_
   rintro v H3 rfl
   rw [zbi,hi]
   simp [gvN,grL]
theorem zhx (h:Rd H b l bad) (most:Nat) (hm:most≤4611686018427387904):Wf S 91 [.pointer (some ⟨b,0,none⟩),.int .i64 most] H fun v H'=>v= .string (ofL (txS (zaz l bad most)))∧H'=H.put b (RdB (txL (zaz l bad most)) (zaz l bad most).isNone):=by
 have hlt:=h.lt
 refine w91 rfl rfl _ _ ?_
 simp [s91]
 refine (zeI h most hm).mono ?_
 rintro v H1 ⟨rfl,rfl⟩
 have hrd:Rd (H.put b (RdB (grL (zam l bad most)) (zam l bad most).isNone)) b (grL (zam l bad most)) (zam l bad most).isNone:=zaZ hlt
 try simp
 refine (zcL hrd _).mono ?_
 rintro v H2 ⟨rfl,rfl⟩
 rw [zbi,Int.toNat_natCast]
 cases ho:zam l bad most with
 |none=>
  have hi:zaz l bad most=none:=by simp [zaz,ho]
  rw [hi]
  simp [zar,zaE,zav,txS,txL,grL]
 |some p=>
  by_cases hle:p.1≤p.2.length
  ·have hi:zaz l bad most=some (p.2.take p.1,p.2.drop p.1):=by simp [zaz,ho,hle]
   rw [hi]
   have:¬p.2.length< p.1:=by omega
   simp [zar,zaE,zav,txS,txL,grL,gvN,this]
  ·have hi:zaz l bad most=none:=by simp [zaz,ho,hle]
   rw [hi]
   have:p.2.length< p.1:=by omega
   simp [zar,zaE,zav,txS,txL,grL,gvN,this]
theorem Acc.app2 {t z N M n bytes:Nat} {H:Heap} {v:Value} {cs new:List Value} (h:Acc t z N M H v n cs) (hz:new.length=z) (hn:(n+1)*bytes≤zag∧n+1≤zag):
  ∃v' H',zbl (H.push (.cells new t true)) t z bytes v 1 new=some (v',H')∧Acc t z H.next H'.next H' v' (n+1) (cs++new)∧H.next< H'.next∧∀k,k< H.next→(∀b m c,v= .slice (some b) m c→b.block≠k)→H'.get k=H.get k:=by
 rcases h with ⟨rfl,rfl,rfl⟩|⟨b,c,h1,h2,rfl,hc,h3,h4⟩
 ·have h5:bytes≤zag∧1≤zag:=by simpa using hn
  refine ⟨_,_,by simp [zbl,h5.1,h5.2];exact ⟨rfl,rfl⟩,?_,by simp;omega,fun k hk _=>?_⟩
  ·refine .inr ⟨H.next+1,zas,by omega,by simp,rfl,.inl rfl,?_,by simp [hz]⟩
   simp
  ·rw [zae (by simp;omega),zae hk]
 ·have hb:=zai h3
  have hrd:rd cs 0 (n*z)=some cs:=by
   unfold rd;rw [if_pos (by omega),List.drop_zero,List.take_of_length_le (by omega)]
  have hg:(H.push (.cells new t true)).get b= .cells cs t true:=by rw [zae hb];exact h3
  rcases hc with rfl|rfl
  ·refine ⟨_,_,by simp only [zbl,hg,hn,and_self,if_true,Nat.succ_ne_zero,if_false,hrd,Option.map_some,Nat.one_ne_zero];exact rfl,?_,?_,?_⟩
   ·refine .inr ⟨(H.push (.cells new t true)).next,zas,by simp,by simp [next_put],rfl,.inl rfl,?_,by simp [h4,hz,Nat.succ_mul]⟩
    have:=zaf (H:=(H.push (.cells new t true)).put b .dead) (b:= .cells (cs++new) t true)
    rw [next_put] at this;exact this
   ·simp [next_put];omega
   ·intro k hk hkN
    have:=hkN _ _ _ rfl
    simp only at this
    rw [zae (by rw [next_put];simp;omega),zaa (by omega),zae hk]
  ·have hx:¬c=zas:=by
    have:zag< zas:=by decide
    omega
   have hx2:¬c+1≤c:=by omega
   refine ⟨_,_,by simp only [zbl,hg,hn,and_self,if_true,hx,hx2,if_false,hrd,Option.map_some];exact rfl,?_,?_,?_⟩
   ·refine .inr ⟨(H.push (.cells new t true)).next,zas,by simp,by simp,rfl,.inl rfl,zaf,by simp [h4,hz,Nat.succ_mul]⟩
   ·simp;omega
   ·intro k hk hkN
    rw [zae (by simp;omega),zae hk]
theorem Acc.appN2 {t z N M n m bytes:Nat} {H:Heap} {v:Value} {cs new:List Value} (h:Acc t z N M H v n cs) (hm:0< m) (hz:new.length=m*z) (hn:(n+m)*bytes≤zag∧n+m≤zag):
  ∃v' H',zbl H t z bytes v m new=some (v',H')∧Acc t z H.next H'.next H' v' (n+m) (cs++new)∧H.next< H'.next∧∀k,k< H.next→(∀b m c,v= .slice (some b) m c→b.block≠k)→H'.get k=H.get k:=by
 have hm0:¬m=0:=by omega
 rcases h with ⟨rfl,rfl,rfl⟩|⟨b,c,h1,h2,rfl,hc,h3,h4⟩
 ·have h5:m*bytes≤zag∧m≤zag:=by simpa using hn
  refine ⟨_,_,by simp [zbl,h5.1,h5.2,hm0];exact ⟨rfl,rfl⟩,?_,by simp,fun k hk _=>zae hk⟩
  refine .inr ⟨H.next,zas,by omega,by simp,by simp,.inl rfl,?_,by simp [hz]⟩
  simp
 ·have hb:=zai h3
  have hrd:rd cs 0 (n*z)=some cs:=by
   unfold rd;rw [if_pos (by omega),List.drop_zero,List.take_of_length_le (by omega)]
  rcases hc with rfl|rfl
  ·refine ⟨_,_,by simp only [zbl,h3,hn,and_self,if_true,hm0,if_false,hrd,Option.map_some];exact rfl,?_,?_,?_⟩
   ·refine .inr ⟨H.next,zas,by omega,by simp [next_put],rfl,.inl rfl,?_,by simp [h4,hz,Nat.add_mul]⟩
    have:=zaf (H:=H.put b .dead) (b:= .cells (cs++new) t true)
    rw [next_put] at this;exact this
   ·simp [next_put]
   ·intro k hk hkN
    have:=hkN _ _ _ rfl
    simp only at this
    rw [zae (by rw [next_put];omega),zaa (by omega)]
  ·have hx:¬c=zas:=by
    have:zag< zas:=by decide
    omega
   have hx2:¬c+m≤c:=by omega
   refine ⟨_,_,by simp only [zbl,h3,hn,and_self,if_true,hx,hx2,if_false,hrd,Option.map_some];exact rfl,?_,?_,?_⟩
   ·refine .inr ⟨H.next,zas,by omega,by simp,rfl,.inl rfl,zaf,by simp [h4,hz,Nat.add_mul]⟩
   ·simp
   ·intro k hk hkN
    rw [zae hk]
def WrC (H:Heap) (w:Nat) (l:Bytes) (Q:Nat→Prop):Prop:=∃sv,H.get w= .cells [sv] 99 true∧Acc 5 1 (w+1) H.next H sv l.length (bvs l)∧∀k,Q k→k< H.next∧k≠w∧∀b m c,sv= .slice (some b) m c→b.block≠k
def KQ (Q:Nat→Prop) (H H':Heap):Prop:=H.next≤H'.next∧∀k,Q k→H'.get k=H.get k
theorem KQ.refl (Q:Nat→Prop) (H:Heap):KQ Q H H:=⟨Nat.le_refl _,fun _ _=>rfl⟩
theorem KQ.trans {Q:Nat→Prop} {A B C:Heap} (h:KQ Q A B) (h':KQ Q B C):KQ Q A C:=⟨Nat.le_trans h.1 h'.1,fun k hk=>(h'.2 k hk).trans (h.2 k hk)⟩
theorem WrC.new {H:Heap}:WrC (H.push (.cells [.slice none 0 0] 99 true)) H.next [] (fun k=>k< H.next):=⟨_,zaf,by simpa [bvs] using Acc.nil,fun k hk=>⟨by simp;omega,by omega,fun b m c h=>by simp at h⟩⟩
theorem WrC.lt {H:Heap} {w:Nat} {l:Bytes} {Q:Nat→Prop} (h:WrC H w l Q):w< H.next:=by obtain ⟨sv,hg,_⟩:=h;exact zai hg
theorem WrC.kp {H H':Heap} {w:Nat} {l:Bytes} {Q:Nat→Prop} (h:WrC H w l Q) (hk:Kp H.next H H'):WrC H' w l Q:=by
 obtain ⟨sv,hg,hA,hQ⟩:=h
 exact ⟨sv,(hk.2 w (zai hg)).trans hg,(hA.kp fun b _ hb=>hk.2 b hb).mono hk.1,fun k h=>⟨by have:=(hQ k h).1;have:=hk.1;omega,(hQ k h).2⟩⟩
theorem WrC.more {H:Heap} {w:Nat} {l:Bytes} {Q Q':Nat→Prop} (h:WrC H w l Q) (hq:∀k,Q' k→Q k):WrC H w l Q':=by
 obtain ⟨sv,hg,hA,hQ⟩:=h
 exact ⟨sv,hg,hA,fun k h=>hQ k (hq k h)⟩
theorem WrC.with {H H':Heap} {w q:Nat} {l:Bytes} {Q:Nat→Prop} (h:WrC H w l Q) (hk:Kp H.next H H') (h1:H.next≤q) (h2:q< H'.next):WrC H' w l (fun k=>Q k∨k=q):=by
 obtain ⟨sv,hg,hA,hQ⟩:=h
 have hlt:=zai hg
 refine ⟨sv,(hk.2 w hlt).trans hg,(hA.kp fun b _ hb=>hk.2 b hb).mono hk.1,fun k h=>?_⟩
 rcases h with h|rfl
 ·exact ⟨by have:=(hQ k h).1;have:=hk.1;omega,(hQ k h).2⟩
 ·refine ⟨h2,by omega,fun b m c e=>?_⟩
  rcases hA with ⟨_,_,rfl⟩|⟨b',c',r1,r2,rfl,_⟩
  ·cases e
  ·simp only [Value.slice.injEq,Option.some.injEq] at e
   obtain ⟨rfl,_,_⟩:=e
   simp only;omega
theorem zm4 {t z N M n:Nat} {H:Heap} {v:Value} {cs:List Value} (h:Acc t z N M H v n cs):zaB v=true:=by
 obtain ⟨a,c,rfl,_⟩:=h.len
 rfl
theorem WrC.store {H H1:Heap} {w:Nat} {l l':Bytes} {Q:Nat→Prop} {sv v':Value} (hg:H.get w= .cells [sv] 99 true) (hQ:∀k,Q k→k< H.next∧k≠w∧∀b m c,sv= .slice (some b) m c→b.block≠k) (hA0:Acc 5 1 (w+1) H.next H sv l.length (bvs l))
  (hA:Acc 5 1 H.next H1.next H1 v' l'.length (bvs l')) (hn:H.next< H1.next) (hk:∀k,k< H.next→(∀b m c,sv= .slice (some b) m c→b.block≠k)→H1.get k=H.get k):
  ∃H2,kSt H1 (.pointer (some ⟨w,0,none⟩)) v'=some H2∧KQ Q H H2∧WrC H2 w l' Q:=by
 have hlt:=zai hg
 have hg1:H1.get w= .cells [sv] 99 true:=(hk w hlt (fun b m c e=>by
  rcases hA0 with ⟨_,_,rfl⟩|⟨b',c',r1,r2,rfl,_⟩
  ·cases e
  ·simp only [Value.slice.injEq,Option.some.injEq] at e
   obtain ⟨rfl,_,_⟩:=e
   simp only;omega)).trans hg
 have ho:=zm4 hA
 refine ⟨H1.put w (.cells [v'] 99 true),by simp [kSt,hg1,ho],⟨by rw [next_put];omega,fun k hk'=>?_⟩,v',zad (by omega),?_,fun k hk'=>?_⟩
 ·obtain ⟨q1,q2,q3⟩:=hQ k hk'
  rw [zaa q2];exact hk k q1 q3
 ·rw [next_put]
  have:=hA.kp (H':=H1.put w (.cells [v'] 99 true)) fun k hk _=>zaa (by omega)
  rcases this with h|⟨b',c',r1,r2,r3⟩
  ·exact .inl h
  ·exact .inr ⟨b',c',by omega,r2,r3⟩
 ·obtain ⟨q1,q2,q3⟩:=hQ k hk'
  rw [next_put]
  refine ⟨by omega,q2,fun b m c e=>?_⟩
  rcases hA with ⟨_,_,rfl⟩|⟨b',c',r1,r2,rfl,_⟩
  ·cases e
  ·simp only [Value.slice.injEq,Option.some.injEq] at e
   obtain ⟨rfl,_,_⟩:=e
   simp only;omega
theorem WrC.one {w:Nat} {Q:Nat→Prop} (h:WrC H w l Q) (hl:l.length≤10000000) {x:Nat} (hx:x< 256):∃sv v' H1 H2,H.get w= .cells [sv] 99 true∧zbl (H.push (.cells [.int .u8 x] 5 true)) 5 1 1 sv 1 [.int .u8 x]=some (v',H1)∧
  kSt H1 (.pointer (some ⟨w,0,none⟩)) v'=some H2∧KQ Q H H2∧WrC H2 w (l++ [UInt8.ofNat x]) Q:=by
 obtain ⟨sv,hg,hA,hQ⟩:=h
 have hn:(UInt8.ofNat x).toNat=x:=by simp;omega
 obtain ⟨v',H1,e1,hA1,hn1,hk⟩:=hA.app2 (bytes:=1) (new:= [.int .u8 x]) rfl (by unfold zag;omega)
 obtain ⟨H2,q1,q2,q3⟩:=WrC.store (l':=l++ [UInt8.ofNat x]) hg hQ hA (by simpa [bvs,bv,hn] using hA1) hn1 hk
 exact ⟨sv,v',H1,H2,hg,e1,q1,q2,q3⟩
end
def by0 (s:Bytes) (i:Nat):Nat:=(s.getD i 0).toNat
theorem zc8 {s:Bytes} {i:Nat} (h:i< s.length):∃b,s.drop i=b::s.drop (i+1)∧b.toNat=by0 s i∧s[i]? =some b:=by
 refine ⟨s[i],List.drop_eq_getElem_cons h,?_,List.getElem?_eq_getElem h⟩
 unfold by0;rw [List.getD_eq_getElem?_getD,List.getElem?_eq_getElem h];rfl
def bvN (s:Bytes) (n:Nat):Nat→Nat→Nat
 |0,_=>0
 |k+1,i=>by0 s i % 128+128*bvN s n k (i+1)
theorem zjA (s:Bytes) (n:Nat):∀k i,bvN s n k i< 128 ^ k
 |0,i=>by simp [bvN]
 |k+1,i=>by have:=zjA s n k (i+1);simp only [bvN,Nat.pow_succ];omega
theorem ziB (s:Bytes) (n:Nat):∀k i,by0 s (i+k) % 128*128 ^ k≤bvN s n (k+1) i
 |0,i=>by simp [bvN]
 |k+1,i=>by
  have:=ziB s n k (i+1)
  have e:i+1+k=i+(k+1):=by omega
  rw [e] at this
  have e2:by0 s (i+(k+1)) % 128*128 ^ (k+1)=128*(by0 s (i+(k+1)) % 128*128 ^ k):=by
   rw [Nat.pow_succ,←Nat.mul_assoc,Nat.mul_comm]
  rw [e2]
  show 128*_≤by0 s i % 128+128*bvN s n (k+1) (i+1)
  have:=Nat.mul_le_mul_left 128 this
  omega
theorem zhy (s:Bytes) (n:Nat):∀k i,by0 s (i+k)≤1→bvN s n (k+1) i< 2*128 ^ k
 |0,i,h=>by simp only [Nat.add_zero] at h;simp only [bvN,Nat.pow_zero];omega
 |k+1,i,h=>by
  have e:i+1+k=i+(k+1):=by omega
  have:=zhy s n k (i+1) (by rw [e];exact h)
  show by0 s i % 128+128*bvN s n (k+1) (i+1)< _
  rw [Nat.pow_succ];omega
theorem zkr {s:Bytes} {n:Nat} (hb:∀j,j< n→128≤by0 s j) (h:n=s.length∨9< n) (hn:n≤s.length):∀k i,i+k=min n 9→pG i (s.drop i)=none
 |0,i,h0=>by
  rcases Nat.lt_or_ge 9 n with h9|h9
  ·have hi:i=9:=by omega
   subst hi
   obtain ⟨b,h1,h2,_⟩:=zc8 (s:=s) (i:=9) (by omega)
   have:=hb 9 h9
   rw [h1]
   have h3:1< b.toNat:=by omega
   simp only [pG]
   rw [if_pos (.inl ⟨trivial,h3⟩)]
  ·have hi:i=s.length:=by omega
   rw [hi,List.drop_length];rfl
 |k+1,i,h0=>by
  obtain ⟨b,h1,h2,_⟩:=zc8 (s:=s) (i:=i) (by omega)
  have:=hb i (by omega)
  have ih:=zkr hb h hn k (i+1) (by omega)
  rw [h1]
  simp only [pG,ih,Option.map_none]
  split
  ·rfl
  ·split
   ·omega
   ·rfl
theorem zks {s:Bytes} {n:Nat} (hb:∀j,j< n→128≤by0 s j) (hn:n< s.length) (hl:by0 s n< 128) (h9:n≤9):∀k i,i+k=n→
  pG i (s.drop i)=if (n=9∧1< by0 s n)∨(0< n∧by0 s n=0) then none else some (bvN s n (k+1) i,s.drop (n+1))
 |0,i,h0=>by
  have hi:i=n:=by omega
  subst hi
  obtain ⟨b,h1,h2,_⟩:=zc8 hn
  rw [h1]
  simp only [pG,h2,bvN]
  split
  ·rfl
  ·have:by0 s i % 128=by0 s i:=Nat.mod_eq_of_lt hl
   simp [hl,this]
 |k+1,i,h0=>by
  obtain ⟨b,h1,h2,_⟩:=zc8 (s:=s) (i:=i) (by omega)
  have h3:=hb i (by omega)
  have ih:=zks hb hn hl h9 k (i+1) (by omega)
  rw [h1]
  simp only [pG,h2,ih]
  rw [if_neg (by omega),if_neg (by omega)]
  split
  ·rfl
  ·simp only [Option.map_some,bvN]
structure F1 (s:Bytes) (d:Nat) (e:Fe) (H0 H:Heap) (i:Nat):Prop where
 h1:i≤s.length
 h2:d=s.length - i
 hH:H=H0
 b:∀j,j< i→128≤by0 s j
 e0:e 0= .string (ofL s)
 e4:e 4= .int .i64 i
structure F2 (s:Bytes) (n:Nat) (d:Nat) (e:Fe) (H0 H:Heap) (k:Nat):Prop where
 h1:k≤n+1
 h2:d=n+1 - k
 hH:H=H0
 v:n=9→k=10→by0 s 9≤1
 e0:e 0= .string (ofL s)
 e4:e 4= .int .i64 n
 e5:e 5= .int .u64 ((bvN s n k (n+1 - k):Nat):Int)
 e6:e 6= .int .i64 ((n:Int) - k)
def zbp (s:Bytes):Value:=match pG 0 s with
 |some (v,t)=> .tuple #[.int .u64 (v:Int),.int .i64 ((s.length - t.length:Nat):Int)]
 |none=> .tuple #[.int .u64 0,.int .i64 0]
theorem zbK {H:Heap} (s:Bytes) (hs:s.length≤1000000):Wf S 45 [.string (ofL s)] H fun r H'=>Kp H.next H H'∧r=zbp s:=by
 refine w45 rfl rfl _ ?_
 simp [s45]
 refine l45_1 S (fun d e H'=>∃i,F1 s d e H H' i) s.length ⟨0,by omega,by omega,rfl,by omega,by simp,by simp⟩ ?_
 rintro d e H' ⟨i,hi,rfl,rfl,hb,e0,e4⟩
 have w2:IntKind.i64.wrap ((i:Int)+1)=(i:Int)+1:=wi (by omega) (by omega)
 by_cases h3:i< s.length∧128≤by0 s i
 ·obtain ⟨h3,h4⟩:=h3
  obtain ⟨b,q1,q2,q3⟩:=zc8 h3
  have hat:=fun K=>s_at (S:=S) (e:= []) (H:=H') (K:=K) (l:=s) (k:= .i64) q3
  have h4':(128:Int)≤b.toNat:=by omega
  simp [s45_1,e0,e4,zaj,h3,hat,bv,h4',w2]
  exact ⟨s.length - (i+1),by omega,i+1,by omega,rfl,rfl,fun j hj=>by
   by_cases e:j=i
   ·rw [e];exact h4
   ·exact hb j (by omega),by simp [e0],by simp⟩
 ·
  have fin:(i=s.length∨9< i)→pG 0 s=none:=fun h=>by
   have:=zkr hb h hi (min i 9) 0 (by omega)
   simpa using this
  by_cases h5:i=s.length
  ·have hg:zbp s= .tuple #[.int .u64 0,.int .i64 0]:=by unfold zbp;rw [fin (.inl h5)]
   subst h5
   simp [s45_1,e0,e4,zaj,hg,tup]
   exact Kp.refl _ _
  ·have h6:i< s.length:=by omega
   have h7:by0 s i< 128:=by omega
   obtain ⟨b,q1,q2,q3⟩:=zc8 h6
   have hat:=fun K=>s_at (S:=S) (e:= []) (H:=H') (K:=K) (l:=s) (k:= .i64) q3
   have h4':¬(128:Int)≤b.toNat:=by omega
   have h5':¬(i:Int)=s.length:=by omega
   by_cases h8:9< i
   ·have hg:zbp s= .tuple #[.int .u64 0,.int .i64 0]:=by unfold zbp;rw [fin (.inr h8)]
    have h8':(9:Int)< i:=by omega
    simp [s45_1,e0,e4,zaj,h6,hat,bv,h4',h5,h5',h8',hg,tup]
    exact Kp.refl _ _
   ·have h8':¬(9:Int)< i:=by omega
    have hps:=zks hb h6 h7 (by omega) i 0 (by omega)
    rw [List.drop_zero] at hps
    simp [s45_1,e0,e4,zaj,h6,hat,bv,h4',h5,h5',h8']
    refine l45_0 S (fun d e' H2=>∃k,F2 s i d e' H' H2 k) (i+1) ⟨0,by omega,by omega,rfl,by omega,by simp [e0],by simp [e4],by simp [bvN],by simp [e4]⟩ ?_
    rintro d e' H2 ⟨k,hk,rfl,rfl,hv,q0,q4,q5,q6⟩
    have hlt:=zjA s i k (i+1 - k)
    by_cases h9:k< i+1
    ·obtain ⟨j,hj⟩:∃j,j=i - k:=⟨_,rfl⟩
     have hjj:(i:Int) - k=(j:Int):=by omega
     have hij:i+1 - k=j+1:=by omega
     rw [hjj] at q6
     rw [hij] at q5 hlt
     obtain ⟨V,hV⟩:∃V,V=bvN s i k (j+1):=⟨_,rfl⟩
     rw [←hV] at q5 hlt
     by_cases h10:144115188075855871< V
     ·have h10':(144115188075855871:Int)< V:=by omega
      have hk9:k=9∧i=9:=by
       rcases Nat.lt_or_ge k 9 with h|h
       ·have:128 ^ k≤128 ^ 8:=Nat.pow_le_pow_right (by omega) (by omega)
        have e8:(128:Nat) ^ 8=72057594037927936:=by decide
        omega
       ·omega
      obtain ⟨rfl,rfl⟩:=hk9
      have hj0:j=0:=by omega
      subst hj0
      have h2:1< by0 s 9:=by
       rcases Nat.lt_or_ge 1 (by0 s 9) with h|h
       ·exact h
       ·have:=zhy s 9 8 1 h
        have e8:(128:Nat) ^ 8=72057594037927936:=by decide
        rw [e8] at this
        have hV':V=bvN s 9 (8+1) 1:=hV
        omega
      have hg:zbp s= .tuple #[.int .u64 0,.int .i64 0]:=by
       unfold zbp;rw [hps,if_pos (.inl ⟨rfl,h2⟩)]
      simp [s45_0,q0,q5,q6,h10,h10',hg,tup]
      exact Kp.refl _ _
     ·have h10':¬(144115188075855871:Int)< V:=by omega
      obtain ⟨b2,r1,r2,r3⟩:=zc8 (s:=s) (i:=j) (by omega)
      have hat2:=fun K=>s_at (S:=S) (e:= []) (H:=H2) (K:=K) (l:=s) (k:= .i64) r3
      have hb2:=b2.toNat_lt
      obtain ⟨m,hm⟩:∃m,m=b2.toNat % 128:=⟨_,rfl⟩
      have t1:(b2.toNat:Int).tmod 128=(m:Int):=by rw [Int.tmod_eq_emod_of_nonneg (by omega)];omega
      have w3:IntKind.u64.wrap (m:Int)=m:=wu64 (by omega) (by omega)
      have w4:IntKind.u64.wrap ((V:Int)*128)=((V*128:Nat):Int):=by rw [wu64 (by omega) (by omega)];omega
      have hbv:bvN s i (k+1) j=m+128*V:=by rw [hm,r2,hV];rfl
      have w5:IntKind.u64.wrap (((V*128:Nat):Int)+m)=((bvN s i (k+1) j:Nat):Int):=by rw [wu64 (by omega) (by omega)];omega
      have w6:IntKind.i64.wrap ((j:Int) - 1)=(j:Int) - 1:=wi (by omega) (by omega)
      obtain ⟨VV,hVV⟩:∃VV,VV=V*128:=⟨_,rfl⟩
      rw [←hVV] at w4 w5
      simp [s45_0,q0,q5,q6,h10,h10',hat2,bv,t1,w3,w4,w5,w6]
      refine ⟨i+1 - (k+1),by omega,k+1,by omega,rfl,rfl,fun h9 h10=>?_,by simp [q0],by simp [q4],?_,?_⟩
      ·subst h9
       have hk9:k=9:=by omega
       subst hk9
       have hj0:j=0:=by omega
       subst hj0
       have hla:=ziB s 9 8 1
       have e8:(128:Nat) ^ 8=72057594037927936:=by decide
       rw [e8] at hla
       have hV':V=bvN s 9 (8+1) 1:=hV
       have e9:by0 s (1+8)=by0 s 9:=rfl
       rw [e9,Nat.mod_eq_of_lt h7] at hla
       omega
      ·have:i+1 - (k+1)=j:=by omega
       simp [this]
      ·have:(j:Int) - 1=(i:Int) - (k+1:Nat):=by omega
       simp [this]
    ·have hk1:k=i+1:=by omega
     subst hk1
     have hneg:(i:Int) - (i+1:Nat)=-1:=by omega
     rw [hneg] at q6
     have h00:i+1 - (i+1)=0:=by omega
     rw [h00] at q5
     obtain ⟨V,hV⟩:∃V,V=bvN s i (i+1) 0:=⟨_,rfl⟩
     rw [←hV] at q5 hps
     have hV64:V< 18446744073709551616:=by
      rcases Nat.lt_or_ge i 9 with h|h
      ·have h1:=zjA s i (i+1) 0
       have:128 ^ (i+1)≤128 ^ 9:=Nat.pow_le_pow_right (by omega) (by omega)
       have e8:(128:Nat) ^ 9=9223372036854775808:=by decide
       omega
      ·have hi9:i=9:=by omega
       subst hi9
       have h1:=zhy s 9 9 0 (hv rfl rfl)
       have e8:(128:Nat) ^ 9=9223372036854775808:=by decide
       rw [e8] at h1
       have hV':V=bvN s 9 (9+1) 0:=hV
       omega
     have w7:IntKind.i64.wrap ((i:Int)+1)=((i+1:Nat):Int):=by rw [wi (by omega) (by omega)];omega
     have hup:=fun K=>zdt (S:=S) (e:= []) (H:=H2) (K:=K) (l:=s) (k:= .i64) (b:=((i+1:Nat):Int))
     have hle:(0:Int)≤((i+1:Nat):Int)∧((i+1:Nat):Int)≤s.length:=by omega
     obtain ⟨i1,hi1⟩:∃i1,i1=i+1:=⟨_,rfl⟩
     rw [←hi1] at w7 hup hle hps
     simp only [if_pos hle,Int.toNat_natCast] at hup
     simp [s45_0,q0,q4,q5,q6,w7,hup]
     refine (zm3 V hV64).mono ?_
     rintro r H3 ⟨hk3,rfl⟩
     by_cases h11:(i=9∧1< by0 s i)∨(0< i∧by0 s i=0)
     ·rw [if_pos h11] at hps
      have hne:¬grp V=s.take i1:=fun he=>by
       have h12:=zqt V 0 (s.drop i1) (by omega) (by simpa using hV64) (by omega)
       rw [he,List.take_append_drop,hps] at h12
       cases h12
      have hg:zbp s= .tuple #[.int .u64 0,.int .i64 0]:=by unfold zbp;rw [hps]
      simp [zf6,hne,hg,tup]
      exact hk3
     ·rw [if_neg h11] at hps
      have heq:grp V=s.take i1:=by
       have h12:=(zht s 0 V _ hps).1
       have h13:s.take i1++s.drop i1=grp V++s.drop i1:=by rw [List.take_append_drop];exact h12
       exact (List.append_cancel_right h13).symm
      have hg:zbp s= .tuple #[.int .u64 (V:Int),.int .i64 (i1:Int)]:=by
       have:s.length - (s.length - i1)=i1:=by omega
       unfold zbp;rw [hps];simp only [List.length_drop,this]
      simp [zf6,heq,hg,tup,q4,q5,w7]
      exact hk3
def BkB (sv:Value) (n:Nat):Blk:= .cells [sv,.int .i64 n] 322 true
theorem zjB (s:Bytes) (a k:Nat):zax s a (k+1)=za1 s a+2*zax s (a+1) k:=by
 rw [Nat.add_comm k 1,zcg,ziy];omega
section
variable {H:Heap} {b:Nat} {sv:Value} {s:Bytes} {n:Nat}
theorem zm5 (hg:H.get b=BkB sv n):Wf S 254 [.pointer (some ⟨b,0,none⟩)] H fun v H'=>H'=H∧v= .int .i64 n:=by
 refine w254 rfl rfl _ ?_
 have hg':H.get b= .cells [sv,.int .i64 n] 322 true:=hg
 simp [s254,kEq,zac,hg']
theorem zoE (hg:H.get b=BkB sv n) (hb:By H b sv s) (hs:s.length≤1000000) {at_:Nat} (hat:at_< 8*s.length):Wf S 259 [.pointer (some ⟨b,0,none⟩),.int .i64 at_] H fun v H'=>H'=H∧v= .int .u32 (za1 s at_:Nat):=by
 refine w259 rfl rfl _ _ ?_
 obtain ⟨a,c,rfl,hbb⟩:=hb
 obtain ⟨bb,rfl,hne,hgb⟩:=hbb (by omega)
 have hg':H.get b= .cells [.slice (some ⟨bb,0,none⟩) s.length c,.int .i64 n] 322 true:=hg
 obtain ⟨x,hx⟩:∃x,s[at_ / 8]? =some x:=⟨_,List.getElem?_eq_getElem (by omega)⟩
 have hxb:=x.toNat_lt
 have hgd:s.getD (at_ / 8) 0=x:=by rw [List.getD_eq_getElem?_getD,hx];rfl
 have hcx:(bvs s)[at_ / 8]? =some (.int .u8 x.toNat):=by simp [bvs,bv,hx]
 have ha7:=and7 at_ (by omega)
 have o1:zat .shr (.int .i64 (at_:Int)) (.int .u64 3)=some (.int .i64 ((at_ / 8:Nat):Int)):=by
  rw [zcx,if_neg (by omega)]
  have hm:min (3:Int).toNat IntKind.i64.bits=3:=by decide
  rw [hm,Int.fdiv_eq_ediv_of_nonneg _ (by decide)]
  congr 2
 have hqb:min (at_ % 8) IntKind.u8.bits=at_ % 8:=by
  have:IntKind.u8.bits=8:=rfl
  omega
 have hdb:x.toNat / 2 ^ (at_ % 8)≤x.toNat:=Nat.div_le_self _ _
 have o2:zat .shr (.int .u8 (x.toNat:Int)) (.int .i64 ((at_ % 8:Nat):Int))=some (.int .u8 ((x.toNat / 2 ^ (at_ % 8):Nat):Int)):=by
  rw [zcx,if_neg (by omega),Int.toNat_natCast,hqb,Int.fdiv_eq_ediv_of_nonneg _ (by exact_mod_cast Nat.zero_le (2 ^ (at_ % 8)))]
  congr 2
 have hba:za1 s at_=x.toNat / 2 ^ (at_ % 8) % 2:=by unfold za1;rw [hgd]
 obtain ⟨p,hp⟩:∃p,p=at_ / 8:=⟨_,rfl⟩
 obtain ⟨q,hq⟩:∃q,q=at_ % 8:=⟨_,rfl⟩
 obtain ⟨D,hD⟩:∃D,D=x.toNat / 2 ^ q:=⟨_,rfl⟩
 rw [←hq] at o2 ha7 hdb hba
 rw [←hp] at o1 hcx
 rw [←hD] at o2 hdb hba
 have w4:IntKind.u32.wrap (D:Int)=(D:Int):=wu32 (Int.natCast_nonneg _) (by omega)
 have o3:zat .and (.int .u32 (D:Int)) (.int .u32 1)=some (.int .u32 ((D % 2:Nat):Int)):=by
  have h:=zdN (k:= .u32) (a:=D) (b:=1) (by show D< 2 ^ 32;omega) (by decide)
  have e:D &&& 1=D % 2:=zdO D 1
  rw [e,wu32 (by omega) (by omega)] at h
  exact h
 have hps:p< s.length:=by omega
 simp [s259,zac,hg',o1,o2,o3,ha7,hgb,hcx,hps,w4,hba]
theorem ziC (hg:H.get b=BkB sv n) (hb:By H b sv s) (hs:s.length≤1000000) (hn:n≤8*s.length) (k:Nat) (hk:k≤32):
  Wf S 251 [.pointer (some ⟨b,0,none⟩),.int .i64 k] H fun v H'=>if k≤n then v= .tuple #[.int .u32 (zax s (n - k) k:Nat),.bool true]∧H'=H.put b (BkB sv (n - k)) else v= .tuple #[.int .u32 0,.bool false]∧H'=H:=by
 refine w251 rfl rfl _ _ ?_
 have hg':H.get b= .cells [sv,.int .i64 n] 322 true:=hg
 have h0:¬(k:Int)< 0:=by omega
 have h1:¬(32:Int)< k:=by omega
 have h1':¬32< k:=by omega
 by_cases hkn:k≤n
 ·have h2:¬(n:Int)< k:=by omega
  have h2':¬n< k:=by omega
  have hblt:b< H.next:=zai hg
  simp [s251,kEq,zac,hg',h0,h1,h1',h2,h2',hkn]
  refine l251_0 S (fun d e H'=>∃g:Nat,g≤k∧d=k - g∧H'=H.put b (BkB sv (n - g))∧e 0= .pointer (some ⟨b,0,none⟩)∧e 6= .int .u32 (zax s (n - g) g:Nat)∧e 25= .int .i64 k∧e 26= .int .i64 g) k ⟨0,by omega,by omega,(zcI hg).symm,by simp,by simp [zax],by simp,by simp⟩ ?_
  rintro d e H' ⟨g,hgk,rfl,rfl,e0,e6,e25,e26⟩
  by_cases h3:g< k
  ·have hg2:(H.put b (BkB sv (n - g))).get b= .cells [sv,.int .i64 ((n - g:Nat):Int)] 322 true:=zad hblt
   have w1:IntKind.i64.wrap (((n - g:Nat):Int) - 1)=((n - (g+1):Nat):Int):=by rw [wi (by omega) (by omega)];omega
   have w2:IntKind.i64.wrap ((g:Int)+1)=(g:Int)+1:=wi (by omega) (by omega)
   have hpp:(H.put b (BkB sv (n - g))).put b (.cells [sv,.int .i64 ((n - (g+1):Nat):Int)] 322 true)=H.put b (BkB sv (n - (g+1))):=zbi
   have hg3:(H.put b (BkB sv (n - (g+1)))).get b= .cells [sv,.int .i64 ((n - (g+1):Nat):Int)] 322 true:=zad hblt
   have hnf:=zjB s (n - (g+1)) g
   have e1:n - (g+1)+1=n - g:=by omega
   rw [e1] at hnf
   have hl1:=za6 s (n - g) g
   have pg:2 ^ (g+1)≤2 ^ 32:=Nat.pow_le_pow_right (by omega) (by omega)
   have e32:(2:Nat) ^ 32=4294967296:=by decide
   have hpow:2 ^ (g+1)=2 ^ g*2:=Nat.pow_succ _ _
   have hbt:=zcf s (n - (g+1))
   obtain ⟨m1,hm1⟩:∃m1,m1=n - (g+1):=⟨_,rfl⟩
   obtain ⟨m0,hm0⟩:∃m0,m0=n - g:=⟨_,rfl⟩
   obtain ⟨W,hW⟩:∃W,W=zax s m0 g:=⟨_,rfl⟩
   obtain ⟨T,hT⟩:∃T,T=za1 s m1:=⟨_,rfl⟩
   rw [←hm1,←hm0,←hT,←hW] at hnf
   rw [←hm0,←hW] at e6 hl1
   rw [←hm1,←hT] at hbt
   rw [←hm1] at w1 hpp hg3
   rw [←hm0] at w1 hpp hg2
   have o1:zat .shl (.int .u32 (W:Int)) (.int .u64 1)=some (.int .u32 ((2*W:Nat):Int)):=by
    rw [zch,if_neg (by omega)]
    have hm:min (1:Int).toNat IntKind.u32.bits=1:=by decide
    rw [hm,wu32 (by omega) (by omega)]
    congr 2;omega
   have o2:zat .or (.int .u32 ((2*W:Nat):Int)) (.int .u32 (T:Int))=some (.int .u32 ((T+2*W:Nat):Int)):=by
    have hor:=zeB (v:=T) (g:=1) (p:=W) (by omega)
    rw [zf8 (by show _< 2 ^ 32;omega) (by show _< 2 ^ 32;omega),Nat.or_comm,show 2*W=W*2 ^ 1 from by omega,hor,wu32 (by omega) (by omega)]
   obtain ⟨W2,hW2⟩:∃W2,W2=2*W:=⟨_,rfl⟩
   rw [←hW2] at o1 o2 hnf
   have h3':(g:Int)< k:=by omega
   rw [←hm0]
   simp [s251_0,e0,e6,e25,e26,h3,h3',zac,hg2,kSt,zaB,w1,hpp,hg3,o1]
   refine (zoE (n:=m1) (at_:=m1) hg3 hb.put hs (by omega)).mono ?_
   rintro v H2 ⟨rfl,rfl⟩
   rw [←hT]
   simp [o2,w2]
   refine ⟨k - (g+1),by omega,g+1,by omega,rfl,by rw [hm1],?_,by omega⟩
   rw [←hm1,hnf];omega
  ·have h5:g=k:=by omega
   subst h5
   simp [s251_0,e6,e25,e26,tup]
 ·have h2:(n:Int)< k:=by omega
  have h2':n< k:=by omega
  simp [s251,kEq,zac,hg',h0,h1,h1',h2,h2',hkn,tup]
theorem zfL (x:Nat) (hx:x< 65536):Wf S 148 [.int .u32 x] H fun v H'=>H'=H∧v= .int .i64 (wd x):=by
 by_cases hs:x< 256
 ·exact zm2 x hs
 have h1:¬(65536:Int)≤x:=by omega
 have h2:(256:Int)≤x:=by omega
 have h1':¬65536≤x:=by omega
 have h2':256≤x:=by omega
 obtain ⟨y,hy⟩:∃y,y=x / 256:=⟨_,rfl⟩
 have o1:zat .shr (.int .u32 (x:Int)) (.int .u64 8)=some (.int .u32 (y:Int)):=by
  rw [zcx,if_neg (by omega)]
  have hm:min (8:Int).toNat IntKind.u32.bits=8:=by decide
  rw [hm,Int.fdiv_eq_ediv_of_nonneg _ (by decide)]
  congr 2;omega
 have w1:IntKind.u8.wrap (y:Int)=y:=wu8' (by omega) (by omega)
 have w8:IntKind.i64.wrap 8=8:=by decide
 have hwd:wd x=wd y+8:=by
  have:=zmK (v:=x) (k:=8) (by omega) (by omega)
  have e8:(2:Nat) ^ 8=256:=by decide
  rw [e8,←hy] at this;omega
 have hk:=zmJ ⟨y,by omega⟩
 have hle:=zpq ⟨y,by omega⟩
 simp only at hk hle
 refine w148 rfl rfl _ ?_
 simp [s148]
 refine w183 rfl rfl _ ?_
 simp [s183,h1,h2,h1',h2',o1,w1]
 rw [hk]
 have hm:(wd y) % 256=wd y:=by omega
 have w2:IntKind.i64.wrap (wd y:Int)=wd y:=wi (by omega) (by omega)
 have w3:IntKind.i64.wrap (8+(wd y:Int))=wd x:=by rw [wi (by omega) (by omega)];omega
 simp [hm,w2,w3,w8]
theorem zgj {H:Heap} {t bb o n:Nat} {l:List Value} (hr:zaJ H t 1 n (some ⟨bb,o,none⟩)=some l) {i:Nat} (hi:i< n):kLd H (.pointer (some ⟨bb,o+i,none⟩))=l[i]? :=by
 unfold zaJ at hr
 unfold kLd
 simp only at hr⊢
 split at hr
 ·rename_i c t' rw hg
  split at hr
  ·obtain ⟨h1,rfl⟩:=rd_some hr
   rw [List.getElem?_take,if_pos (by omega),List.getElem?_drop]
  ·cases hr
 ·cases hr
theorem zqO {a:Option Addr} {c:Nat} (hr:zaJ H 5 1 s.length a=some (bvs s)) (ha:0< s.length→∃bb o,a=some ⟨bb,o,none⟩) (hs:s.length≤1000000):Wf S 250 [.slice a s.length c] H fun v H'=>match opN s with
  |none=>H'=H∧v= .tuple #[.pointer none,.bool false]
  |some n=>∃sv b,v= .tuple #[.pointer (some ⟨b,0,none⟩),.bool true]∧H.next≤b∧b< H'.next∧H'.get b=BkB sv n∧By H' b sv s∧Kp H.next H H':=by
 refine w250 rfl rfl _ ?_
 by_cases h0:s.length=0
 ·have hs0:s= []:=List.eq_nil_of_length_eq_zero h0
  subst hs0
  have ho:opN []=none:=rfl
  rw [ho]
  simp [s250,tup]
 ·obtain ⟨bb,o,rfl⟩:=ha (by omega)
  obtain ⟨x,hx⟩:∃x,s[s.length - 1]? =some x:=⟨_,List.getElem?_eq_getElem (by omega)⟩
  have hxl:=x.toNat_lt
  have hrm:s.length≤zag:=by unfold zag;omega
  have hlast:s.getLast? =some x:=by rw [List.getLast?_eq_getElem?];exact hx
  have hcx:(bvs s)[s.length - 1]? =some (.int .u8 x.toNat):=by simp [bvs,bv,hx]
  have hcell:kLd H (.pointer (some ⟨bb,o+(s.length - 1),none⟩))=some (.int .u8 x.toNat):=by rw [zgj hr (by omega)];exact hcx
  have w1:IntKind.i64.wrap ((s.length:Int) - 1)=((s.length - 1:Nat):Int):=by rw [wi (by omega) (by omega)];omega
  have g1:s.length - 1< s.length:=by omega
  have h0':¬(s.length:Int)=0:=by omega
  by_cases hx0:x.toNat=0
  ·have ho:opN s=none:=by unfold opN;rw [hlast];simp only;rw [if_pos hx0]
   rw [ho]
   simp [s250,h0,h0',w1,g1,zac,hcell,hx0,tup]
  ·have ho:opN s=some (8*(s.length - 1)+wd x.toNat - 1):=by unfold opN;rw [hlast];simp only;rw [if_neg hx0]
   rw [ho]
   have hx0':¬(x.toNat:Int)=0:=by omega
   have wu:IntKind.u32.wrap (x.toNat:Int)=x.toNat:=wu32 (by omega) (by omega)
   simp [s250,h0,h0',w1,g1,zac,hcell,hx0,hx0',wu]
   refine (zfL x.toNat (by omega)).mono ?_
   rintro v H1 ⟨rfl,rfl⟩
   obtain ⟨hw1,hw2,_,_⟩:=zc6 8 x.toNat (by omega) (by omega) (by omega)
   obtain ⟨T,hT⟩:∃T,T=wd x.toNat:=⟨_,rfl⟩
   rw [←hT] at hw1 hw2⊢
   have w2:IntKind.i64.wrap ((T:Int) - 1)=(T:Int) - 1:=wi (by omega) (by omega)
   have w3:IntKind.i64.wrap (8*((s.length - 1:Nat):Int))=8*((s.length - 1:Nat):Int):=wi (by omega) (by omega)
   have w4:IntKind.i64.wrap (8*((s.length - 1:Nat):Int)+((T:Int) - 1))=((8*(s.length - 1)+T - 1:Nat):Int):=by rw [wi (by omega) (by omega)];omega
   simp [w1,w2,w3,w4,hr,zbl,h0,hrm,zaC,zaQ,zaw,cellsL,wr,tup]
   exact ⟨_,rfl,⟨some ⟨H1.next,0,none⟩,zas,rfl,fun h=>⟨H1.next,rfl,by omega,by rw [zae (by simp)];exact zaf⟩⟩,by simp;omega,fun k hk=>by rw [zae (by simp;omega),zae hk]⟩
end
set_option maxHeartbeats 4000000
def Kq (b:Nat) (H H':Heap):Prop:=H.next≤H'.next∧∀k,k< H.next→k≠b→H'.get k=H.get k
theorem Kq.refl (b:Nat) (H:Heap):Kq b H H:=⟨Nat.le_refl _,fun _ _ _=>rfl⟩
theorem Kq.trans {b:Nat} {A B C:Heap} (h:Kq b A B) (h':Kq b B C):Kq b A C:=⟨Nat.le_trans h.1 h'.1,fun k hk hb=>(h'.2 k (Nat.lt_of_lt_of_le hk h.1) hb).trans (h.2 k hk hb)⟩
theorem Kq.put {b:Nat} {H:Heap} {x:Blk}:Kq b H (H.put b x):=⟨by rw [next_put];exact Nat.le_refl _,fun k _ hb=>zaa hb⟩
theorem Kq.of {b:Nat} {H H':Heap} (h:Kp H.next H H'):Kq b H H':=⟨h.1,fun k hk _=>h.2 k hk⟩
theorem By.kq {H H':Heap} {b:Nat} {sv:Value} {s:Bytes} (h:By H b sv s) (hk:Kq b H H'):By H' b sv s:=by
 obtain ⟨a,c,h1,h2⟩:=h
 refine ⟨a,c,h1,fun hp=>?_⟩
 obtain ⟨bb,g1,g2,g3⟩:=h2 hp
 exact ⟨bb,g1,g2,(hk.2 bb (zai g3) g2).trans g3⟩
def zbb (l:List Nat):List Value:=l.map fun n:Nat=>Value.int .i64 (n:Int)
theorem zm6 (l m:List Nat):zbb (l++m)=zbb l++zbb m:=by simp [zbb]
theorem shl1 {k:IntKind} {n:Nat} (h:n≤62):zat .shl (.int .i64 1) (.int k (n:Int))=some (.int .i64 ((2 ^ n:Nat):Int)):=by
 rw [zch,if_neg (by omega),Int.toNat_natCast]
 have hm:min n IntKind.i64.bits=n:=by have:IntKind.i64.bits=64:=rfl;omega
 have hp:2 ^ n≤2 ^ 62:=Nat.pow_le_pow_right (by omega) h
 have e62:(2:Nat) ^ 62=4611686018427387904:=by decide
 have hc:((2 ^ n:Nat):Int)=(2:Int) ^ n:=by push_cast;rfl
 rw [hm,Int.one_mul,←hc]
 obtain ⟨P,hP⟩:∃P,P=2 ^ n:=⟨_,rfl⟩
 rw [←hP] at hp⊢
 rw [wi (by omega) (by omega)]
structure HdI (H0:Heap) (b:Nat) (sv:Value) (s:Bytes) (log:Nat) (d:Nat) (e:Fe) (H:Heap) (pre:List Nat) (r a:Nat) (v:Value):Prop where
 hd:hdD s 256 (2 ^ log) 3=(hdD s (256 - pre.length) r a).map fun p=>(pre++p.1,p.2)
 len:pre.length≤256
 hd2:d=257 - pre.length
 hr:r≤512
 ha:a≤8*s.length
 e0:e 0= .pointer (some ⟨b,0,none⟩)
 e7:e 7= .int .i64 log
 e8:e 8=v
 e9:e 9= .int .i64 r
 acc:Acc 3 1 H0.next H.next H v pre.length (zbb pre)
 hb:H.get b=BrB sv a
 kq:Kq b H0 H
section
variable {H:Heap} {b:Nat} {sv:Value} {s:Bytes}
def HdO (b:Nat) (sv:Value) (H:Heap) (v:Value) (H':Heap) (log:Nat):Option (List Nat×Nat)→Prop
 |none=>v= .tuple #[.slice none 0 0,.int .i64 0,.bool false]∧Kq b H H'
 |some p=>∃w,v= .tuple #[w,.int .i64 log,.bool true]∧Acc 3 1 H.next H'.next H' w p.1.length (zbb p.1)∧H'.get b=BrB sv p.2∧p.2≤8*s.length∧Kq b H H'
def zdA (s:Bytes):Option (List Nat×Nat):=if 3≤8*s.length∧zax s 0 3+5≤9 then hdD s 256 (2 ^ (zax s 0 3+5)) 3 else none
theorem zoF (hg:H.get b=BrB sv 0) (hb:By H b sv s) (hs:s.length≤1000000):Wf S 237 [.pointer (some ⟨b,0,none⟩)] H fun v H'=>
  HdO (s:=s) b sv H v H' (zax s 0 3+5) (zdA s):=by
 refine w237 rfl rfl _ ?_
 have hblt:=zai hg
 simp [s237]
 refine (ze8 hg hb hs (Nat.zero_le _) 3 (by omega)).mono ?_
 intro v H1 hv
 rw [Nat.zero_add] at hv
 by_cases h3:3≤8*s.length
 ·rw [if_pos h3] at hv
  obtain ⟨rfl,rfl⟩:=hv
  have hl:=za6 s 0 3
  obtain ⟨L,hL⟩:∃L,L=zax s 0 3:=⟨_,rfl⟩
  have hT:zdA s=if L+5≤9 then hdD s 256 (2 ^ (L+5)) 3 else none:=by unfold zdA;rw [←hL];simp [h3]
  rw [←hL] at hl⊢
  have e8:(2:Nat) ^ 3=8:=by decide
  have w0:IntKind.i64.wrap (L:Int)=L:=wi (by omega) (by omega)
  have w1:IntKind.i64.wrap (5+(L:Int))=((L+5:Nat):Int):=by rw [wi (by omega) (by omega)];omega
  by_cases h9:L+5≤9
  ·have h9':¬(9:Int)< ((L+5:Nat):Int):=by omega
   have h9'':¬9< L+5:=by omega
   rw [hT,if_pos h9]
   obtain ⟨log,hlog⟩:∃log,log=L+5:=⟨_,rfl⟩
   rw [←hlog] at w1 h9' h9''⊢
   have p9:2 ^ log≤2 ^ 9:=Nat.pow_le_pow_right (by omega) (by omega)
   have e9:(2:Nat) ^ 9=512:=by decide
   obtain ⟨P,hP⟩:∃P,P=2 ^ log:=⟨_,rfl⟩
   have o1:zat .shl (.int .i64 1) (.int .i64 (log:Int))=some (.int .i64 (P:Int)):=by rw [hP];exact shl1 (by omega)
   simp [w0,w1,h9',h9'',o1]
   have hk0:Kq b H (H.put b (BrB sv 3)):=Kq.put
   obtain ⟨H0,hH0⟩:∃H0,H0=H.put b (BrB sv 3):=⟨_,rfl⟩
   have hg0:H0.get b=BrB sv 3:=by rw [hH0];exact zad hblt
   rw [←hH0] at hk0⊢
   have hnx:H0.next=H.next:=by rw [hH0,next_put]
   refine l237_0 S (fun d e H'=>∃pre r a v,HdI H b sv s log d e H' pre r a v) 257 ⟨[],P,3,.slice none 0 0,by simp [←hP],by simp,by simp,by omega,h3,by simp,by simp,by simp,by simp,by simpa [zbb] using Acc.nil,hg0,hk0⟩ ?_
   rintro d e H' ⟨pre,r,a,v,hI⟩
   obtain ⟨hhd,hlen,rfl,hr,ha,e0,e7,e8,e9,hacc,hgb,hkq⟩:=hI
   by_cases hr0:r=0
   ·subst hr0
    have hz:hdD s (256 - pre.length) 0 a=some ([],a):=by
     cases 256 - pre.length<;>rfl
    rw [hz] at hhd
    simp only [Option.map_some,List.append_nil] at hhd
    rw [hP] at*
    simp [s237_0,e0,e7,e8,e9]
    rw [hhd]
    exact ⟨_,rfl,hacc,hgb,ha,hkq⟩
   ·have hr':(0:Int)< r:=by omega
    have hr1:0< r:=by omega
    have wr32:IntKind.u32.wrap (r:Int)=r:=wu32 (by omega) (by omega)
    simp [s237_0,e0,e7,e8,e9,hr',hr1,wr32]
    refine (zfL r (by omega)).mono ?_
    rintro v1 H1 ⟨rfl,rfl⟩
    obtain ⟨hw1,hw2,_,hw4⟩:=zc6 10 r (by omega) (by omega) (by omega)
    obtain ⟨w,hw⟩:∃w,w=wd r:=⟨_,rfl⟩
    rw [←hw] at hw1 hw2 hw4⊢
    refine (ze8 hgb (hb.kq hkq) hs ha w (by omega)).mono ?_
    intro v1 H2 hv1
    obtain ⟨r1,rfl⟩:∃r1,r=r1+1:=⟨r - 1,by omega⟩
    have hstep:∀f,hdD s (f+1) (r1+1) a=if w≤8*s.length - a∧zax s a w≤r1+1 then (hdD s f (r1+1 - zax s a w) (a+w)).map fun p=>(zax s a w::p.1,p.2) else none:=fun f=>by rw [hw];rfl
    by_cases hfit:a+w≤8*s.length
    ·rw [if_pos hfit] at hv1
     obtain ⟨rfl,rfl⟩:=hv1
     obtain ⟨N,hN⟩:∃N,N=zax s a w:=⟨_,rfl⟩
     have hNl:=za6 s a w
     have pw:2 ^ w≤2 ^ 10:=Nat.pow_le_pow_right (by omega) hw2
     have e10:(2:Nat) ^ 10=1024:=by decide
     rw [←hN] at hNl⊢
     have wN:IntKind.i64.wrap (N:Int)=N:=wi (by omega) (by omega)
     have hk1:Kq b H (H1.put b (BrB sv (a+w))):=hkq.trans Kq.put
     have hgb1:(H1.put b (BrB sv (a+w))).get b=BrB sv (a+w):=zad (zai hgb)
     by_cases hNr:N≤r1+1
     ·have hNr1:¬((r1:Int)+1< N):=by omega
      have hNr2:¬(r1+1< N):=by omega
      obtain ⟨sa,sc,hsv,hsb⟩:=hacc.len
      by_cases hfull:pre.length=256
      ·have hn:hdD s 256 (2 ^ log) 3=none:=by rw [hhd,hfull];rfl
       rw [hP] at*
       simp [wN,hNr1,hNr2,hsv,hfull,tup,hn]
       exact ⟨rfl,hk1⟩
      ·have hfull':¬(pre.length:Int)=256:=by omega
       have hacc1:Acc 3 1 H.next H1.next (H1.put b (BrB sv (a+w))) v pre.length (zbb pre):=hacc.kp fun k hk _=>zaa (by omega)
       obtain ⟨v2,H2,hap,hA2,hn2,hk2⟩:=hacc1.app (bytes:=8) (new:= [.int .i64 (N:Int)]) (by rw [next_put];exact hkq.1) (by rw [next_put];exact Nat.le_refl _) rfl (by unfold zag;omega)
       have wrr:IntKind.i64.wrap ((r1:Int)+1 - N)=((r1+1 - N:Nat):Int):=by rw [wi (by omega) (by omega)];omega
       have hnp:(H1.put b (BrB sv (a+w))).next=H1.next:=next_put
       generalize H1.put b (BrB sv (a+w))=H3 at*
       rw [hsv] at hap
       simp [wN,hNr1,hNr2,hsv,hfull,hfull',e0,e7,e8,e9,zaC,zaQ,zaw,cellsL,wr,zaJ,rd,hap,wrr]
       refine ⟨257 - (pre.length+1),by omega,pre++ [N],r1+1 - N,a+w,v2,?_,by simp;omega,by simp,by omega,hfit,by simp [e0],by simp [e7],by simp,by simp,?_,?_,⟨by have:=hk1.1;omega,fun k hk hkb=>(hk2 k (by have:=hk1.1;omega) (.inl hk)).trans (hk1.2 k hk hkb)⟩⟩
       ·rw [hhd,show 256 - pre.length=(256 - (pre.length+1))+1 by omega,hstep,if_pos ⟨by omega,by rw [←hN];exact hNr⟩,←hN,Option.map_map]
        simp only [List.length_append,List.length_cons,List.length_nil,Nat.zero_add]
        congr 1
        funext p
        simp
       ·simpa [zbb] using hA2
       ·rw [hk2 b (zai hgb1) (.inl hblt)];exact hgb1
     ·have hNr1:((r1:Int)+1< N):=by omega
      have hNr2:(r1+1< N):=by omega
      have hn:hdD s 256 (2 ^ log) 3=none:=by
       rw [hhd]
       cases hf:256 - pre.length with
       |zero=>rfl
       |succ f=>rw [hstep,if_neg (by rw [←hN];omega)];rfl
      simp [wN,hNr1,hNr2,tup,hn]
      exact ⟨rfl,hk1⟩
    ·rw [if_neg hfit] at hv1
     obtain ⟨rfl,rfl⟩:=hv1
     have hn:hdD s 256 (2 ^ log) 3=none:=by
      rw [hhd]
      cases hf:256 - pre.length with
      |zero=>rfl
      |succ f=>rw [hstep,if_neg (by omega)];rfl
     simp [tup,hn]
     exact ⟨rfl,hkq⟩
  ·have h9':(9:Int)< (L:Int)+5:=by omega
   have h9'':9< L+5:=by omega
   rw [hT,if_neg h9]
   simp [w0,w1,h9',h9'',tup]
   exact ⟨rfl,Kq.put⟩
 ·rw [if_neg h3] at hv
  obtain ⟨rfl,rfl⟩:=hv
  have hT:zdA s=none:=if_neg (fun h=>h3 h.1)
  rw [hT]
  simp [HdO,tup]
  exact Kq.refl _ _
end
def Nv (H:Heap) (a:Option Addr) (l:List Nat):Prop:=∀(i:Nat) x,l[i]? =some x→∃b o,a=some ⟨b,o,none⟩∧kLd H (.pointer (some ⟨b,o+i,none⟩))=some (.int .i64 (x:Int))∧b< H.next
theorem zc9 {H H':Heap} {b o:Nat} (h:H'.get b=H.get b):kLd H' (.pointer (some ⟨b,o,none⟩))=kLd H (.pointer (some ⟨b,o,none⟩)):=by
 unfold kLd;simp only [h]
theorem Nv.kp {H H':Heap} {a:Option Addr} {l:List Nat} (h:Nv H a l) (hk:∀b o,a=some ⟨b,o,none⟩→H'.get b=H.get b) (hn:H.next≤H'.next):Nv H' a l:=fun i x hx=>by
 obtain ⟨b,o,h1,h2,h3⟩:=h i x hx
 exact ⟨b,o,h1,(zc9 (hk b o h1)).trans h2,by omega⟩
theorem Nv.kp2 {H H':Heap} {a:Option Addr} {l:List Nat} (h:Nv H a l) (hk:Kp H.next H H'):Nv H' a l:=fun i x hx=>by
 obtain ⟨b,o,h1,h2,h3⟩:=h i x hx
 exact ⟨b,o,h1,(zc9 (hk.2 b h3)).trans h2,by have:=hk.1;omega⟩
theorem Acc.nv {N M n:Nat} {H:Heap} {v:Value} {l:List Nat} (h:Acc 3 1 N M H v n (zbb l)) (hn:l.length=n):∃a c,v= .slice a n c∧Nv H a l∧∀b o,a=some ⟨b,o,none⟩→N≤b∧b< M:=by
 rcases h with ⟨rfl,h1,rfl⟩|⟨b,c,h1,h2,rfl,_,h3,h4⟩
 ·exact ⟨none,0,rfl,fun i x hx=>by rw [List.eq_nil_of_length_eq_zero hn] at hx;simp at hx,fun b o h=>by cases h⟩
 ·refine ⟨_,_,rfl,fun i x hx=>⟨b,0,rfl,?_,zai h3⟩,fun b' o h=>by cases h;exact ⟨h1,h2⟩⟩
  unfold kLd;simp [h3,zbb,hx]
def frB (log:Nat) (sh:List Nat):Bool:=decide (5≤log∧log≤9∧sh.length≤256∧sh.sum=2 ^ log)
theorem zoG {log:Nat} {sh:List Nat}:frB log sh=true↔Fr log sh:=by
 unfold frB;rw [decide_eq_true_eq]
 exact ⟨fun h=>⟨h.1,h.2.1,h.2.2.2,h.2.2.1⟩,fun h=>⟨h.lo,h.hi,h.len,h.sum⟩⟩
theorem zbu (l:List Nat) (i:Nat):(l.take i).sum≤l.sum:=by
 have:=congrArg List.sum (List.take_append_drop i l)
 rw [List.sum_append] at this;omega
theorem zcy {l:List Nat} {i x:Nat} (h:l[i]? =some x):(l.take (i+1)).sum=(l.take i).sum+x:=by
 rw [List.take_add_one,h];simp
section
variable {H:Heap} {a:Option Addr} {c:Nat} {sh:List Nat}
theorem cright2_t (log:Nat) (hl:log≤1000000):Wf S 218 [.int .i64 log] H fun v H'=>H'=H∧v= .bool (decide (5≤log∧log≤9)):=by
 refine w218 rfl rfl _ ?_
 by_cases h:5≤log
 ·have h':(5:Int)≤log:=by omega
  simp [s218,h,h']
  omega
 ·have h':¬(5:Int)≤log:=by omega
  simp [s218,h,h']
theorem zqP (hs:Nv H a sh) (log:Nat) (hl:log≤1000000) (hlen:sh.length≤1000000):Wf S 221 [.slice a sh.length c,.int .i64 log] H fun v H'=>H'=H∧v= .bool (frB log sh):=by
 refine w221 rfl rfl _ _ ?_
 simp [s221]
 refine (cright2_t log hl).mono ?_
 rintro v H1 ⟨rfl,hv⟩
 by_cases h1:5≤log∧log≤9
 ·have hd:decide (5≤log∧log≤9)=true:=decide_eq_true h1
  rw [hd] at hv
  subst hv
  by_cases h2:256< sh.length
  ·have h2':(256:Int)< sh.length:=by omega
   have hf:frB log sh=false:=by unfold frB;rw [decide_eq_false_iff_not];omega
   simp [h2,h2',hf]
  ·have h2':¬(256:Int)< sh.length:=by omega
   have o1:=shl1 (k:= .i64) (n:=log) (by omega)
   have p9:2 ^ log≤2 ^ 9:=Nat.pow_le_pow_right (by omega) (by omega)
   have e9:(2:Nat) ^ 9=512:=by decide
   have hfr:frB log sh=decide (sh.sum=2 ^ log):=by unfold frB;congr 1;exact propext ⟨fun h=>h.2.2.2,fun h=>⟨h1.1,h1.2,by omega,h⟩⟩
   obtain ⟨P,hP⟩:∃P,P=2 ^ log:=⟨_,rfl⟩
   rw [←hP] at o1 hfr p9
   simp [h2,h2',o1]
   refine l221_0 S (fun d e H'=>∃i:Nat,i≤sh.length∧d=sh.length - i∧H'=H1∧(sh.take i).sum≤P∧e 5= .int .i64 ((P - (sh.take i).sum:Nat):Int)∧e 18= .slice a sh.length c∧e 19= .int .i64 sh.length∧e 20= .int .i64 i) sh.length ⟨0,by omega,by omega,rfl,by simp,by simp,by simp,by simp,by simp⟩ ?_
   rintro d e H' ⟨i,hi,rfl,rfl,hle,e5,e18,e19,e20⟩
   by_cases h3:i< sh.length
   ·obtain ⟨x,hx⟩:∃x,sh[i]? =some x:=⟨_,List.getElem?_eq_getElem h3⟩
    obtain ⟨b,o,rfl,hcell,_⟩:=hs i x hx
    have hss:=zcy hx
    have hsl:=zbu sh (i+1)
    have hw:IntKind.i64.wrap ((i:Int)+1)=(i:Int)+1:=wi (by omega) (by omega)
    obtain ⟨T,hT⟩:∃T,T=(sh.take i).sum:=⟨_,rfl⟩
    rw [←hT] at e5 hle hss
    have hx0:¬(x:Int)< 0:=by omega
    by_cases h4:P - T< x
    ·have h4':((P - T:Nat):Int)< x:=by omega
     have hf:decide (sh.sum=P)=false:=by rw [decide_eq_false_iff_not];omega
     rw [hfr,hf]
     simp [s221_0,e5,e18,e19,e20,h3,zac,hcell,hx0,h4,h4']
    ·have h4':¬((P - T:Nat):Int)< x:=by omega
     have hw2:IntKind.i64.wrap (((P - T:Nat):Int) - x)=((P - (T+x):Nat):Int):=by rw [wi (by omega) (by omega)];omega
     simp [s221_0,e5,e18,e19,e20,h3,zac,hcell,hx0,h4,h4',hw,hw2]
     exact ⟨sh.length - (i+1),by omega,i+1,by omega,rfl,by rw [hss];omega,by rw [hss],by omega⟩
   ·have h5:i=sh.length:=by omega
    subst h5
    rw [List.take_length] at hle e5
    rw [hfr]
    simp [s221_0,e5,e18,e19,e20]
    omega
 ·have hd:decide (5≤log∧log≤9)=false:=decide_eq_false h1
  have hf:frB log sh=false:=by unfold frB;rw [decide_eq_false_iff_not];exact fun h=>h1 ⟨h.1,h.2.1⟩
  rw [hd] at hv
  subst hv
  simp [hf]
end
def bys (l:List Nat):List Value:=l.map fun n:Nat=>Value.int .u8 (n:Int)
def spl (log:Nat) (sh:List Nat) (j:Nat):List Nat:=(List.range (2 ^ log)).map fun p=>if zef log p< j then (exS sh 0).getD (zef log p) 0 else 0
theorem ziD (log:Nat) (sh:List Nat):spl log sh 0=List.replicate (2 ^ log) 0:=by
 apply List.ext_getElem?
 intro i
 by_cases hi:i< 2 ^ log
 ·simp [spl,hi]
 ·rw [List.getElem?_eq_none (by simp [spl];omega),List.getElem?_eq_none (by simp;omega)]
theorem ziE (log:Nat) (sh:List Nat):spl log sh (2 ^ log)=zaH log sh:=by
 unfold spl zaH
 apply List.map_congr_left
 intro p _
 rw [if_pos (zkm log p)]
theorem ziF {log:Nat} (h:5≤log) (h2:log≤9) {sh:List Nat} {j s:Nat} (hj:j< 2 ^ log) (hs:(exS sh 0)[j]? =some s):(spl log sh j).set (j*zfv log % 2 ^ log) s=spl log sh (j+1):=by
 apply List.ext_getElem?
 intro i
 have hlt:j*zfv log % 2 ^ log< 2 ^ log:=Nat.mod_lt _ (Nat.two_pow_pos _)
 have hlen:∀j,(spl log sh j).length=2 ^ log:=fun j=>by simp [spl]
 rw [List.getElem?_set,hlen]
 by_cases hi:i< 2 ^ log
 ·have hat:∀j,(spl log sh j)[i]? =some (if zef log i< j then (exS sh 0).getD (zef log i) 0 else 0):=fun j=>by simp [spl,hi]
  rw [hat,hat]
  by_cases he:j*zfv log % 2 ^ log=i
  ·rw [if_pos he,if_pos hlt]
   have:zef log i=j:=by rw [←he];exact zkn h h2 hj
   rw [this,if_pos (by omega),List.getD_eq_getElem?_getD,hs];rfl
  ·rw [if_neg he]
   have hne:zef log i≠j:=fun hp=>he (by rw [←hp];exact zgc h h2 hi)
   by_cases h3:zef log i< j
   ·rw [if_pos h3,if_pos (by omega)]
   ·rw [if_neg h3,if_neg (by omega)]
 ·rw [List.getElem?_eq_none (by rw [hlen];omega),List.getElem?_eq_none (by rw [hlen];omega),if_neg (by omega)]
theorem zjC:∀(sh:List Nat) (s0 i n m:Nat),sh[i]? =some n→m< n→(exS sh s0)[(sh.take i).sum+m]? =some (s0+i)
 | [],_,_,_,_,h,_=>by simp at h
 |x::t,s0,0,n,m,h,hm=>by
  simp at h;subst h
  simp [exS,List.getElem?_append_left,hm]
 |x::t,s0,i+1,n,m,h,hm=>by
  have:=zjC t (s0+1) i n m (by simpa using h) hm
  simp only [exS,List.take_succ_cons,List.sum_cons]
  rw [List.getElem?_append_right (by simp;omega),List.length_replicate,show x+(t.take i).sum+m - x=(t.take i).sum+m by omega,this]
  congr 1;omega
theorem zrW {x n:Nat} (h:n≤62):zat .shr (.int .i64 (x:Int)) (.int .u64 (n:Int))=some (.int .i64 ((x / 2 ^ n:Nat):Int)):=by
 rw [zcx,if_neg (by omega),Int.toNat_natCast]
 have hm:min n IntKind.i64.bits=n:=by have:IntKind.i64.bits=64:=rfl;omega
 rw [hm,Int.fdiv_eq_ediv_of_nonneg _ (by exact_mod_cast Nat.zero_le (2 ^ n))]
 congr 2
theorem zsS {x n:Nat} (hx:x< 4611686018427387904) (hn:n≤60):zat .and (.int .i64 (x:Int)) (.int .i64 ((2 ^ n - 1:Nat):Int))=some (.int .i64 ((x % 2 ^ n:Nat):Int)):=by
 have hp:2 ^ n≤2 ^ 60:=Nat.pow_le_pow_right (by omega) hn
 have e60:(2:Nat) ^ 60=1152921504606846976:=by decide
 have h:=zdN (k:= .i64) (a:=x) (b:=2 ^ n - 1) (by show x< 2 ^ 64;omega) (by show 2 ^ n - 1< 2 ^ 64;omega)
 have hmle:x % 2 ^ n≤x:=Nat.mod_le _ _
 rw [zdO,wi (by omega) (by omega)] at h
 exact h
theorem zoH (l:List Nat) (i x:Nat):(bys l).set i (.int .u8 (x:Int))=bys (l.set i x):=by simp [bys,List.map_set]
section
variable {H:Heap} {a:Option Addr} {c:Nat} {sh:List Nat} {log:Nat}
structure SyI (H0:Heap) (a:Option Addr) (c:Nat) (sh:List Nat) (log P T:Nat) (e:Fe) (H:Heap) (j:Nat):Prop where
 e1:e 1= .int .i64 P
 e5:e 5= .slice (some ⟨H0.next,0,none⟩) P P
 e6:e 6= .int .i64 (T:Nat)
 e7:e 7= .int .i64 ((j*T % P:Nat):Int)
 e18:e 18= .slice a sh.length c
 e19:e 19= .int .i64 sh.length
 hH:H=H0.push (.cells (bys (spl log sh j)) 5 true)
theorem zlc (hs:Nv H a sh) (hf:Fr log sh):Wf S 224 [.slice a sh.length c,.int .i64 ((2 ^ log:Nat):Int)] H fun v H'=>v= .slice (some ⟨H.next,0,none⟩) (2 ^ log) (2 ^ log)∧H'=H.push (.cells (bys (zaH log sh)) 5 true):=by
 obtain ⟨hlo,hhi,hsum,hlen⟩:=hf
 refine w224 rfl rfl _ _ ?_
 have p9:2 ^ log≤2 ^ 9:=Nat.pow_le_pow_right (by omega) (by omega)
 have e9:(2:Nat) ^ 9=512:=by decide
 have p5:2 ^ 5≤2 ^ log:=Nat.pow_le_pow_right (by omega) (by omega)
 have e5:(2:Nat) ^ 5=32:=by decide
 obtain ⟨P,hP⟩:∃P,P=2 ^ log:=⟨_,rfl⟩
 obtain ⟨T,hT⟩:∃T,T=zfv log:=⟨_,rfl⟩
 have hT2:T=P / 2+P / 8+3:=by rw [hT,hP];rfl
 have o1:zat .shr (.int .i64 (P:Int)) (.int .u64 1)=some (.int .i64 ((P / 2:Nat):Int)):=zrW (x:=P) (n:=1) (by omega)
 have o3:zat .shr (.int .i64 (P:Int)) (.int .u64 3)=some (.int .i64 ((P / 8:Nat):Int)):=zrW (x:=P) (n:=3) (by omega)
 have w1:IntKind.i64.wrap (((P / 2:Nat):Int)+((P / 8:Nat):Int))=((P / 2+P / 8:Nat):Int):=by rw [wi (by omega) (by omega)];omega
 have w2:IntKind.i64.wrap (((P / 2+P / 8:Nat):Int)+3)=(T:Int):=by rw [wi (by omega) (by omega)];omega
 have hz:zeros [.int .u8 0] P=bys (spl log sh 0):=by
  rw [ziD,←hP];simp [zeros,bys]
 rw [←hP] at p9 p5 hsum⊢
 obtain ⟨A,hA⟩:∃A,A=P / 2:=⟨_,rfl⟩
 obtain ⟨B,hB⟩:∃B,B=P / 8:=⟨_,rfl⟩
 obtain ⟨AB,hAB⟩:∃AB,AB=A+B:=⟨_,rfl⟩
 rw [←hA] at o1 w1
 rw [←hB] at o3 w1
 rw [←hA,←hB,←hAB] at w2
 rw [←hAB] at w1
 have c1:(P:Int)≤9223372036854775807:=by omega
 have c2:(P:Int)≤281474976710656:=by omega
 simp [s224,zcB,c1,c2,hz,o1,o3,w1,w2]
 refine l224_0 S (fun d e H'=>∃i,i≤sh.length∧d=sh.length - i∧e 20= .int .i64 i∧SyI H a c sh log P T e H' (sh.take i).sum) sh.length ⟨0,by omega,by omega,by simp,by simp,by simp,by simp,by simp,by simp,by simp,by simp⟩ ?_
 rintro d e H' ⟨i,hi,rfl,e20,q1,q5,q6,q7,q18,q19,rfl⟩
 by_cases h3:i< sh.length
 ·obtain ⟨n,hx⟩:∃n,sh[i]? =some n:=⟨_,List.getElem?_eq_getElem h3⟩
  obtain ⟨b,o,rfl,hcell,hbl⟩:=hs i n hx
  have hcell2:kLd (H.push (.cells (bys (spl log sh (sh.take i).sum)) 5 true)) (.pointer (some ⟨b,o+i,none⟩))=some (.int .i64 (n:Int)):=(zc9 (zae hbl)).trans hcell
  have hw:IntKind.i64.wrap ((i:Int)+1)=(i:Int)+1:=wi (by omega) (by omega)
  have hss:=zcy hx
  have hsl:=zbu sh (i+1)
  simp [s224_0,q1,q5,q6,q7,q18,q19,e20,h3,zac,hcell2]
  refine l224_1 S (fun d e' H'=>∃m,m≤n∧d=n - m∧e' 8= .int .i64 i∧e' 20= .int .i64 i∧e' 25= .int .i64 n∧e' 26= .int .i64 m∧SyI H (some ⟨b,o,none⟩) c sh log P T e' H' ((sh.take i).sum+m)) n ⟨0,by omega,by omega,by simp,by simp [e20],by simp,by simp,by simp [q1],by simp [q5],by simp [q6],by simp [q7],by simp [q18],by simp [q19],rfl⟩ ?_
  rintro d e' H' ⟨m,hm,rfl,r8,r20,r25,r26,r1,r5,r6,r7,r18,r19,rfl⟩
  by_cases h4:m< n
  ·have h4':(m:Int)< n:=by omega
   have hat:=zjC sh 0 i n m hx h4
   rw [Nat.zero_add] at hat
   have hj:(sh.take i).sum+m< 2 ^ log:=by omega
   have hstep:=ziF (sh:=sh) hlo hhi hj hat
   obtain ⟨j,hjj⟩:∃j,j=(sh.take i).sum+m:=⟨_,rfl⟩
   have hj1:(sh.take i).sum+(m+1)=j+1:=by omega
   rw [←hjj] at hstep hj r7⊢
   rw [←hP,←hT] at hstep
   obtain ⟨Q,hQ⟩:∃Q,Q=j*T % P:=⟨_,rfl⟩
   have hQP:Q< P:=by rw [hQ];exact Nat.mod_lt _ (by omega)
   have hQ1:(j+1)*T % P=(Q+T) % P:=by rw [hQ,Nat.succ_mul,Nat.mod_add_mod]
   rw [←hQ] at r7 hstep
   have wm:IntKind.i64.wrap ((m:Int)+1)=(m:Int)+1:=wi (by omega) (by omega)
   have wu:IntKind.u8.wrap (i:Int)=i:=wu8' (by omega) (by omega)
   have wq:IntKind.i64.wrap ((Q:Int)+T)=((Q+T:Nat):Int):=by rw [wi (by omega) (by omega)];omega
   have wp:IntKind.i64.wrap ((P:Int) - 1)=((P - 1:Nat):Int):=by rw [wi (by omega) (by omega)];omega
   have oa:=zsS (x:=Q+T) (n:=log) (by omega) (by omega)
   rw [←hP,←hQ1] at oa
   obtain ⟨Q1,hQ1e⟩:∃Q1,Q1=(j+1)*T % P:=⟨_,rfl⟩
   rw [←hQ1e] at oa
   obtain ⟨QT,hQT⟩:∃QT,QT=Q+T:=⟨_,rfl⟩
   rw [←hQT] at oa wq
   have hl:(bys (spl log sh j)).length=P:=by simp [bys,spl,hP]
   have hQl:Q< (bys (spl log sh j)).length:=by omega
   have hset:=zoH (spl log sh j) Q i
   rw [hstep] at hset
   simp [s224_1,r1,r5,r6,r7,r8,r25,r26,h4,h4',zac,wu,kSt,zaB,hQl,hset,wm,wq,wp,oa,hQP]
   refine ⟨n - (m+1),by omega,m+1,by omega,rfl,by simp [r20],by simp,⟨by simp [r1],by simp [r5],by simp [r6],?_,by simp [r18],by simp [r19],by rw [hj1]⟩⟩
   rw [hj1,←hQ1e];simp
  ·have h5:m=n:=by omega
   subst h5
   simp [s224_1,r20,r25,r26,hw]
   refine ⟨sh.length - (i+1),by omega,i+1,by omega,rfl,by omega,by simp [r1],by simp [r5],by simp [r6],?_,by simp [r18],by simp [r19],?_⟩
   ·rw [hss];simp [r7]
   ·rw [hss]
 ·have h5:i=sh.length:=by omega
  subst h5
  have hfin:spl log sh sh.sum=zaH log sh:=by rw [hsum,hP,ziE]
  simp [s224_0,q5,q19,e20,hfin]
end
set_option maxHeartbeats 8000000
def fsT (sh:List Nat) (s:Nat):Nat:=(sh.take s).sum
def upTo (n i:Nat) (f:Nat→Nat):List Nat:=(List.range n).map fun s=>if s< i then f s else 0
theorem zeJ (n i:Nat) (f:Nat→Nat):(upTo n i f).length=n:=by simp [upTo]
theorem ze9 (n:Nat) (f:Nat→Nat):upTo n 0 f=List.replicate n 0:=by
 apply List.ext_getElem?
 intro i
 by_cases hi:i< n
 ·simp [upTo,hi]
 ·rw [List.getElem?_eq_none (by simp [upTo];omega),List.getElem?_eq_none (by simp;omega)]
theorem zgk {n i:Nat} {f:Nat→Nat} {s:Nat} (h:s< n):(upTo n i f)[s]? =some (if s< i then f s else 0):=by simp [upTo,h]
theorem zld {n i:Nat} {f:Nat→Nat} (h:i< n):(upTo n i f).set i (f i)=upTo n (i+1) f:=by
 apply List.ext_getElem?
 intro s
 rw [List.getElem?_set,zeJ]
 by_cases hs:s< n
 ·rw [zgk hs,zgk hs]
  by_cases he:i=s
  ·subst he;rw [if_pos rfl,if_pos h,if_pos (by omega)]
  ·rw [if_neg he]
   by_cases h3:s< i
   ·rw [if_pos h3,if_pos (by omega)]
   ·rw [if_neg h3,if_neg (by omega)]
 ·rw [List.getElem?_eq_none (by rw [zeJ];omega),List.getElem?_eq_none (by rw [zeJ];omega),if_neg (by omega)]
def zcM (log:Nat) (sh:List Nat) (p:Nat):List Nat:=(List.range sh.length).map fun s=>((zaH log sh).take p).count s
theorem zgl {log:Nat} {sh:List Nat} {p s:Nat} (h:s< sh.length):(zcM log sh p)[s]? =some (((zaH log sh).take p).count s):=by simp [zcM,h]
theorem zeK (log:Nat) (sh:List Nat) (p:Nat):(zcM log sh p).length=sh.length:=by simp [zcM]
theorem zle (log:Nat) (sh:List Nat):zcM log sh 0=List.replicate sh.length 0:=by
 apply List.ext_getElem?
 intro i
 by_cases hi:i< sh.length
 ·simp [zcM,hi]
 ·rw [List.getElem?_eq_none (by simp [zcM];omega),List.getElem?_eq_none (by simp;omega)]
theorem zlf {log:Nat} {sh:List Nat} {p s:Nat} (h:(zaH log sh)[p]? =some s) (hs:s< sh.length):(zcM log sh p).set s (((zaH log sh).take p).count s+1)=zcM log sh (p+1):=by
 have ht:(zaH log sh).take (p+1)=(zaH log sh).take p++ [s]:=by rw [List.take_add_one,h];rfl
 apply List.ext_getElem?
 intro i
 rw [List.getElem?_set,zeK]
 by_cases hi:i< sh.length
 ·rw [zgl hi,zgl hi,ht,List.count_append]
  by_cases he:s=i
  ·subst he;simp [hs]
  ·rw [if_neg he]
   have hc:List.count i [s]=0:=by simp [List.count_cons,he]
   rw [hc];rfl
 ·rw [List.getElem?_eq_none (by rw [zeK];omega),List.getElem?_eq_none (by rw [zeK];omega),if_neg (by omega)]
def AlI (log:Nat) (sh:List Nat) (p:Nat) (al:List Nat):Prop:=al.length=2 ^ log∧∀q s,q< p→(zaH log sh)[q]? =some s→al[fsT sh s+((zaH log sh).take q).count s]? =some q
theorem zdB {sh:List Nat} {s n:Nat} (h:sh[s]? =some n):fsT sh (s+1)=fsT sh s+n:=zcy h
theorem ziG (sh:List Nat) {s t:Nat} (h:s≤t):fsT sh s≤fsT sh t:=by
 have:(sh.take s)=(sh.take t).take s:=by rw [List.take_take];congr 1;omega
 unfold fsT;rw [this];exact zbu _ _
theorem zqQ {sh:List Nat} {s t n m i j:Nat} (hs:sh[s]? =some n) (ht:sh[t]? =some m) (hi:i< n) (hj:j< m) (h:fsT sh s+i=fsT sh t+j):s=t:=by
 rcases Nat.lt_trichotomy s t with hl|hl|hl
 ·have h1:=ziG sh (show s+1≤t from hl);rw [zdB hs] at h1;omega
 ·exact hl
 ·have h1:=ziG sh (show t+1≤s from hl);rw [zdB ht] at h1;omega
theorem zgS {log:Nat} {sh:List Nat} (hf:Fr log sh) {p s:Nat} (h:(zaH log sh)[p]? =some s):s< sh.length∧fsT sh s+((zaH log sh).take p).count s< 2 ^ log:=by
 have hsl:=zko hf (List.mem_of_getElem? h)
 have hr:=zgd hf h
 obtain ⟨n,hn⟩:∃n,sh[s]? =some n:=⟨_,List.getElem?_eq_getElem hsl⟩
 have hg:sh.getD s 0=n:=by rw [List.getD_eq_getElem?_getD,hn];rfl
 have h1:=zdB hn
 have h2:fsT sh (s+1)≤sh.sum:=zbu _ _
 rw [hf.sum] at h2
 rw [hg] at hr
 exact ⟨hsl,by omega⟩
theorem AlI.zero (log:Nat) (sh:List Nat):AlI log sh 0 (List.replicate (2 ^ log) 0):=⟨by simp,fun q s h=>by omega⟩
theorem AlI.step {log:Nat} {sh:List Nat} (hf:Fr log sh) {p s:Nat} {al:List Nat} (h:AlI log sh p al) (hs:(zaH log sh)[p]? =some s):AlI log sh (p+1) (al.set (fsT sh s+((zaH log sh).take p).count s) p):=by
 refine ⟨by rw [List.length_set];exact h.1,fun q t hq ht=>?_⟩
 obtain ⟨hs1,hs2⟩:=zgS hf hs
 rw [List.getElem?_set,h.1]
 by_cases he:fsT sh s+((zaH log sh).take p).count s=fsT sh t+((zaH log sh).take q).count t
 ·rw [if_pos he,if_pos hs2]
  obtain ⟨n,hn⟩:∃n,sh[s]? =some n:=⟨_,List.getElem?_eq_getElem hs1⟩
  obtain ⟨m,hm⟩:∃m,sh[t]? =some m:=⟨_,List.getElem?_eq_getElem (zgS hf ht).1⟩
  have r1:=zgd hf hs
  have r2:=zgd hf ht
  have hg1:sh.getD s 0=n:=by rw [List.getD_eq_getElem?_getD,hn];rfl
  have hg2:sh.getD t 0=m:=by rw [List.getD_eq_getElem?_getD,hm];rfl
  have hst:=zqQ hn hm (by rw [←hg1];exact r1) (by rw [←hg2];exact r2) he
  subst hst
  have hc:((zaH log sh).take p).count s=((zaH log sh).take q).count s:=by omega
  rcases Nat.lt_or_ge q p with hl|hl
  ·have:((zaH log sh).take q).count s< ((zaH log sh).take p).count s:=by
    have e:(zaH log sh).take (q+1)=(zaH log sh).take q++ [s]:=by rw [List.take_add_one,ht];rfl
    have e2:(zaH log sh).take (q+1)=((zaH log sh).take p).take (q+1):=by rw [List.take_take];congr 1;omega
    have h3:((zaH log sh).take (q+1)).count s≤((zaH log sh).take p).count s:=by rw [e2];exact (List.take_sublist _ _).count_le _
    rw [e,List.count_append] at h3
    simp at h3;omega
   omega
  ·have:q=p:=by omega
   subst this;rfl
 ·rw [if_neg he]
  refine h.2 q t ?_ ht
  rcases Nat.lt_or_ge q p with hl|hl
  ·exact hl
  ·exfalso
   have:q=p:=by omega
   subst this
   rw [hs] at ht;cases ht
   exact he rfl
def zdC (log:Nat) (sh:List Nat) (i p:Nat):List Value:=if p< i then [.int .u8 ((zaH log sh).getD p 0:Nat),.int .i64 (zbt log sh p:Nat),.int .i64 (zcK log sh p:Nat)] else [.int .u8 0,.int .i64 0,.int .i64 0]
def zdX (log:Nat) (sh:List Nat) (i:Nat):List Value:=(List.range (2 ^ log)).flatMap (zdC log sh i)
theorem zeL (log:Nat) (sh:List Nat) (i p:Nat):(zdC log sh i p).length=3:=by unfold zdC;split<;>rfl
theorem zci (log:Nat) (sh:List Nat) (i:Nat):(zdX log sh i).length=2 ^ log*3:=by
 have:=zdq (f:=zdC log sh i) (z:=3) (zeL log sh i) (List.range (2 ^ log))
 simpa [zdX] using this
theorem zeM {log:Nat} {sh:List Nat} {i p j:Nat} (hp:p< 2 ^ log) (hj:j< 3):(zdX log sh i)[p*3+j]? =(zdC log sh i p)[j]? :=
 zdr (f:=zdC log sh i) (z:=3) (zeL log sh i) (by simp [hp]) hj
theorem zlg {log:Nat} {sh:List Nat} {i:Nat} (hi:i< 2 ^ log):wr (zdX log sh i) (i*3) [.int .u8 ((zaH log sh).getD i 0:Nat),.int .i64 (zbt log sh i:Nat),.int .i64 (zcK log sh i:Nat)]=zdX log sh (i+1):=by
 apply List.ext_getElem?
 intro k
 rw [zfQ (by rw [zci];simp;omega)]
 rcases Nat.lt_or_ge k (2 ^ log*3) with hk|hk
 ·obtain ⟨p,j,rfl,hj⟩:∃p j,k=p*3+j∧j< 3:=⟨k / 3,k % 3,by omega,by omega⟩
  have hp:p< 2 ^ log:=by omega
  rw [zeM hp hj,zeM hp hj]
  by_cases he:p=i
  ·subst he
   rw [if_pos (by simp;omega)]
   have h1:p*3+j - p*3=j:=by omega
   rw [h1]
   simp [zdC]
  ·rw [if_neg (by simp;omega)]
   unfold zdC
   by_cases h3:p< i
   ·rw [if_pos h3,if_pos (by omega)]
   ·rw [if_neg h3,if_neg (by omega)]
 ·rw [if_neg (by simp;omega),List.getElem?_eq_none (by rw [zci];omega),List.getElem?_eq_none (by rw [zci];omega)]
theorem zeg (n:Nat) (f:Nat→Nat):zeros [.int .i64 0] n=zbb (upTo n 0 f):=by
 rw [ze9];simp [zeros,zbb]
theorem zgT (log:Nat) (sh:List Nat):zeros [.int .u8 0,.int .i64 0,.int .i64 0] (2 ^ log)=zdX log sh 0:=by
 have h:∀n,zeros [.int .u8 0,.int .i64 0,.int .i64 0] n=(List.range n).flatMap (zdC log sh 0):=by
  intro n
  induction n with
  |zero=>rfl
  |succ n ih=>
   rw [List.range_succ,List.flatMap_append,←ih]
   simp [zeros,List.replicate_succ',zdC]
 exact h _
theorem zeN (l:List Nat) (i x:Nat):(zbb l).set i (.int .i64 (x:Int))=zbb (l.set i x):=by simp [zbb,List.map_set]
theorem ziH {l:List Nat} {i x:Nat} (h:l[i]? =some x):(zbb l)[i]? =some (.int .i64 (x:Int)):=by simp [zbb,h]
theorem zeO (l:List Nat):(zbb l).length=l.length:=by simp [zbb]
def TbB (N log P len:Nat):Blk:= .cells [.int .i64 log,.slice (some ⟨N+1,0,none⟩) P P,.slice (some ⟨N,0,none⟩) len zas,.slice (some ⟨N+2,0,none⟩) len len,.slice (some ⟨N+3,0,none⟩) P P] 279 true
structure BuG (N:Nat) (log:Nat) (sh fi al:List Nat) (ci:Nat) (H:Heap):Prop where
 tb:H.get (N+4)=TbB N log (2 ^ log) sh.length
 ce:H.get (N+1)= .cells (zdX log sh ci) 282 true
 sh:H.get N= .cells (zbb sh) 3 true
 fi:H.get (N+2)= .cells (zbb fi) 3 true
 al:H.get (N+3)= .cells (zbb al) 3 true
theorem BuG.kp {N log ci:Nat} {sh fi al:List Nat} {H H':Heap} (h:BuG N log sh fi al ci H) (hk:∀k,N≤k→k< N+5→H'.get k=H.get k):BuG N log sh fi al ci H':=
 ⟨(hk _ (by omega) (by omega)).trans h.tb,(hk _ (by omega) (by omega)).trans h.ce,(hk _ (by omega) (by omega)).trans h.sh,(hk _ (by omega) (by omega)).trans h.fi,(hk _ (by omega) (by omega)).trans h.al⟩
def Tb (N log:Nat) (sh:List Nat) (H:Heap):Prop:=∃al,BuG N log sh (upTo sh.length sh.length (fsT sh)) al (2 ^ log) H∧AlI log sh (2 ^ log) al
section
variable {H:Heap} {a:Option Addr} {c:Nat} {sh:List Nat} {log:Nat}
structure B1I (H0:Heap) (a:Option Addr) (c:Nat) (sh:List Nat) (log P:Nat) (d:Nat) (e:Fe) (H:Heap) (i:Nat):Prop where
 hi:i≤sh.length
 hd:d=sh.length - i
 e0:e 0= .slice a sh.length c
 e1:e 1= .int .i64 log
 e6:e 6= .int .i64 P
 e7:e 7= .pointer (some ⟨H0.next+4,0,none⟩)
 e8:e 8= .int .i64 (fsT sh i:Nat)
 e34:e 34= .slice a sh.length c
 e35:e 35= .int .i64 sh.length
 e36:e 36= .int .i64 i
 g:BuG H0.next log sh (upTo sh.length i (fsT sh)) (List.replicate P 0) 0 H
 kp:Kp H0.next H0 H
 nx:H.next=H0.next+5
structure B2I (H0:Heap) (a:Option Addr) (c:Nat) (sh:List Nat) (log P:Nat) (d:Nat) (e:Fe) (H:Heap) (p:Nat) (al:List Nat):Prop where
 hi:p≤P
 hd:d=P - p
 e0:e 0= .slice a sh.length c
 e1:e 1= .int .i64 log
 e6:e 6= .int .i64 P
 e7:e 7= .pointer (some ⟨H0.next+4,0,none⟩)
 e11:e 11= .slice (some ⟨H0.next+5,0,none⟩) sh.length sh.length
 e57:e 57= .slice (some ⟨H0.next+6,0,none⟩) P P
 e58:e 58= .int .i64 P
 e59:e 59= .int .i64 p
 g:BuG H0.next log sh (upTo sh.length sh.length (fsT sh)) al p H
 ai:AlI log sh p al
 gm:H.get (H0.next+5)= .cells (zbb (zcM log sh p)) 3 true
 gs:H.get (H0.next+6)= .cells (bys (zaH log sh)) 5 true
 kp:Kp H0.next H0 H
 nx:H.next=H0.next+7
theorem zsT {x n:Nat} (h:n≤62) (hx:x*2 ^ n< 4611686018427387904):zat .shl (.int .i64 (x:Int)) (.int .i64 (n:Int))=some (.int .i64 ((x*2 ^ n:Nat):Int)):=by
 rw [zch,if_neg (by omega),Int.toNat_natCast]
 have hm:min n IntKind.i64.bits=n:=by have:IntKind.i64.bits=64:=rfl;omega
 have hc:((x*2 ^ n:Nat):Int)=(x:Int)*(2:Int) ^ n:=by push_cast;rfl
 rw [hm,←hc]
 obtain ⟨P,hP⟩:∃P,P=x*2 ^ n:=⟨_,rfl⟩
 rw [←hP] at hx⊢
 rw [wi (by omega) (by omega)]
theorem zoI (hrow:zaJ H 3 1 sh.length a=some (zbb sh)) (hs:Nv H a sh) (hf:Fr log sh):Wf S 187 [.slice a sh.length c,.int .i64 log] H fun v H'=>v= .tuple #[.pointer (some ⟨H.next+4,0,none⟩),.bool true]∧Tb H.next log sh H'∧Kp H.next H H':=by
 have hfb:frB log sh=true:=zoG.2 hf
 have hf':=hf
 obtain ⟨hlo,hhi,hsum,hlen⟩:=hf
 refine w187 rfl rfl _ _ ?_
 have p9:2 ^ log≤2 ^ 9:=Nat.pow_le_pow_right (by omega) (by omega)
 have e9:(2:Nat) ^ 9=512:=by decide
 have p5:2 ^ 5≤2 ^ log:=Nat.pow_le_pow_right (by omega) (by omega)
 have e5:(2:Nat) ^ 5=32:=by decide
 have hl0:¬sh.length=0:=by
  intro h0
  have:sh= []:=List.eq_nil_of_length_eq_zero h0
  subst this
  simp at hsum
  omega
 have o1:=shl1 (k:= .i64) (n:=log) (by omega)
 obtain ⟨P,hP⟩:∃P,P=2 ^ log:=⟨_,rfl⟩
 have hz1:=zgT log sh
 have hz2:=zeg sh.length (fsT sh)
 have hz3:zeros [.int .i64 0] P=zbb (List.replicate P 0):=by have:=zeg P (fsT sh);rw [ze9] at this;exact this
 rw [←hP] at p9 p5 o1 hsum hz1
 have hrm:sh.length*8≤zag:=by unfold zag;omega
 have hrm2:sh.length≤zag:=by unfold zag;omega
 have c1:(P:Int)≤9223372036854775807:=by omega
 have c2:24*(P:Int)≤281474976710656:=by omega
 have c3:8*(P:Int)≤281474976710656:=by omega
 have c4:(sh.length:Int)≤9223372036854775807:=by omega
 have c5:8*(sh.length:Int)≤281474976710656:=by omega
 simp [s187]
 refine (zqP hs log (by omega) (by omega)).mono ?_
 rintro v H1 ⟨rfl,rfl⟩
 rw [hfb]
 simp [o1,hrow,zbl,hl0,hrm,hrm2,zcB,c1,c2,c3,c4,c5,hz1,hz2,hz3,zaC,zaQ,zaw,cellsL,wr]
 obtain ⟨N,hN⟩:∃N,N=H1.next:=⟨_,rfl⟩
 refine l187_1 S (fun d e H'=>∃i,B1I H1 a c sh log P d e H' i) sh.length ⟨0,by omega,by omega,by simp,by simp,by simp,by simp,by simp [fsT],by simp,by simp,by simp,?_,?_,by simp⟩ ?_
 ·refine ⟨?_,?_,?_,?_,?_⟩
  ·simp [Heap.get_push,TbB,hP]
  ·simp [Heap.get_push]
  ·simp [Heap.get_push]
   repeat rw [if_pos (by omega)]
  ·simp [Heap.get_push]
  ·simp [Heap.get_push]
 ·refine ⟨by simp;omega,fun k hk=>?_⟩
  simp [Heap.get_push]
  repeat rw [if_pos (by omega)]
 rintro d e H' ⟨i,hI⟩
 obtain ⟨hi,rfl,q0,q1,q6,q7,q8,q34,q35,q36,hg,hkp,hnx⟩:=hI
 by_cases h3:i< sh.length
 ·obtain ⟨n,hx⟩:∃n,sh[i]? =some n:=⟨_,List.getElem?_eq_getElem h3⟩
  obtain ⟨b,o,rfl,hcell,hbl⟩:=hs i n hx
  have hcell2:kLd H' (.pointer (some ⟨b,o+i,none⟩))=some (.int .i64 (n:Int)):=(zc9 (hkp.2 b hbl)).trans hcell
  have hw:IntKind.i64.wrap ((i:Int)+1)=(i:Int)+1:=wi (by omega) (by omega)
  have hfs:=zdB hx
  have hfl:fsT sh (i+1)≤sh.sum:=zbu _ _
  have w8:IntKind.i64.wrap ((fsT sh i:Int)+n)=((fsT sh (i+1):Nat):Int):=by rw [wi (by omega) (by omega)];omega
  have htb:=hg.tb
  unfold TbB at htb
  have hfi:=hg.fi
  have hil:i< (zbb (upTo sh.length i (fsT sh))).length:=by rw [zeO,zeJ];exact h3
  have hset:=zeN (upTo sh.length i (fsT sh)) i (fsT sh i)
  rw [zld h3] at hset
  simp [s187_1,q0,q1,q6,q7,q8,q34,q35,q36,h3,zac,hcell2,htb,kSt,hfi,zaB,hil,hset,hw,w8]
  refine ⟨sh.length - (i+1),by omega,i+1,by omega,rfl,by simp [q0],by simp [q1],by simp [q6],by simp [q7],by simp,by simp [q34],by simp [q35],by simp,⟨?_,?_,?_,?_,?_⟩,hkp.trans (Kp.put (by omega)),by rw [next_put];exact hnx⟩
  ·rw [zaa (by omega)];exact hg.tb
  ·rw [zaa (by omega)];exact hg.ce
  ·rw [zaa (by omega)];exact hg.sh
  ·exact zad (by omega)
  ·rw [zaa (by omega)];exact hg.al
 ·have h5:i=sh.length:=by omega
  subst h5
  have hz4:zeros [.int .i64 0] sh.length=zbb (zcM log sh 0):=by rw [zle];have:=zeg sh.length (fsT sh);rw [ze9] at this;exact this
  have hsv:∀b,Nv (H'.push b) a sh:=fun b=>hs.kp2 ⟨by simp;have:=hkp.1;omega,fun k hk=>by rw [zae (by have:=hkp.1;omega)];exact hkp.2 k hk⟩
  simp [s187_1,q0,q1,q6,q7,q8,q34,q35,q36,zcB,c4,c5,hz4]
  have hwy:=zlc (H:=H'.push (.cells (zbb (zcM log sh 0)) 3 true)) (c:=c) (hsv _) hf'
  rw [←hP] at hwy
  refine hwy.mono ?_
  rintro v H2 ⟨rfl,rfl⟩
  simp
  have hkk:Kp H1.next H1 ((H'.push (.cells (zbb (zcM log sh 0)) 3 true)).push (.cells (bys (zaH log sh)) 5 true)):=hkp.trans ((Kp.push (by omega)).trans (Kp.push (by simp;omega)))
  have hz5:List.replicate P 0=List.replicate (2 ^ log) 0:=by rw [hP]
  refine l187_0 S (fun d e H'=>∃p al,B2I H1 a c sh log P d e H' p al) P ⟨0,_,by omega,by omega,by simp [q0],by simp [q1],by simp [q6],by simp [q7],by simp [hnx],by simp [hnx],by simp,by simp,hg.kp ?_,by rw [hz5];exact AlI.zero log sh,?_,?_,hkk,by simp [hnx]⟩ ?_
  ·intro k hk1 hk2
   rw [zae (by simp;omega),zae (by omega)]
  ·rw [zae (by simp;omega),←hnx];exact zaf
  ·have:=zaf (H:=H'.push (.cells (zbb (zcM log sh 0)) 3 true)) (b:= .cells (bys (zaH log sh)) 5 true)
   rw [show (H'.push (.cells (zbb (zcM log sh 0)) 3 true)).next=H1.next+6 by simp [hnx]] at this
   exact this
  rintro d e2 H3 ⟨p,al,hI⟩
  obtain ⟨hp,rfl,r0,r1,r6,r7,r11,r57,r58,r59,hg3,hai,gm,gs,hkp3,hnx3⟩:=hI
  by_cases h6:p< P
  ·obtain ⟨s,hsy⟩:∃s,(zaH log sh)[p]? =some s:=⟨_,List.getElem?_eq_getElem (by rw [zdz];omega)⟩
   obtain ⟨hs1,hs2⟩:=zgS hf' hsy
   obtain ⟨hx1,hx2,hx3,hx4⟩:=zmP hf' hsy
   obtain ⟨n,hx⟩:∃n,sh[s]? =some n:=⟨_,List.getElem?_eq_getElem hs1⟩
   have hgd:sh.getD s 0=n:=by rw [List.getD_eq_getElem?_getD,hx];rfl
   have hsd:(zaH log sh).getD p 0=s:=by rw [List.getD_eq_getElem?_getD,hsy];rfl
   obtain ⟨b,o,rfl,hcell,hbl⟩:=hs s n hx
   have hcell2:kLd H3 (.pointer (some ⟨b,o+s,none⟩))=some (.int .i64 (n:Int)):=(zc9 (hkp3.2 b hbl)).trans hcell
   obtain ⟨C,hC⟩:∃C,C=((zaH log sh).take p).count s:=⟨_,rfl⟩
   obtain ⟨X,hX⟩:∃X,X=xT log sh p:=⟨_,rfl⟩
   obtain ⟨I,hI⟩:∃I,I=fsT sh s+C:=⟨_,rfl⟩
   rw [←hC] at hs2 hx1
   rw [←hX] at hx1 hx3 hx4
   rw [hgd] at hx1 hx2 hx3
   rw [←hI,←hP] at hs2
   have p10:2 ^ (log+1)=P*2:=by rw [Nat.pow_succ,hP]
   obtain ⟨k1,k2,k3,k4⟩:=cell_of hf' hsy
   obtain ⟨W,hW⟩:∃W,W=wd X:=⟨_,rfl⟩
   obtain ⟨Bt,hBt⟩:∃Bt,Bt=zbt log sh p:=⟨_,rfl⟩
   obtain ⟨BA,hBA⟩:∃BA,BA=zcK log sh p:=⟨_,rfl⟩
   have hb5:=(zge hf' hsy (m:=0) (Nat.two_pow_pos _)).1
   rw [←hX,←hW,←hBt] at k1
   rw [←hX,←hW] at k2
   rw [←hX,←hBt,←hP] at k3 hb5
   rw [←hBA] at hb5
   rw [←hX,←hBt] at k4
   have o2:=zsT (x:=X) (n:=Bt) (by omega) (by rw [Nat.add_mul] at k4;omega)
   obtain ⟨Y,hY⟩:∃Y,Y=X*2 ^ Bt:=⟨_,rfl⟩
   rw [←hY] at o2 hb5
   have hYl:Y< 4096:=by rw [Nat.add_mul,←hY] at k4;omega
   have hfl:fsT sh s≤sh.sum:=zbu _ _
   have htb:=hg3.tb
   unfold TbB at htb
   have hfi:=hg3.fi
   have hal:=hg3.al
   have hce:=hg3.ce
   rw [←hP] at htb
   have a1:(bys (zaH log sh))[p]? =some (.int .u8 (s:Int)):=by simp [bys,hsy]
   have a2:(zbb (zcM log sh p))[s]? =some (.int .i64 (C:Int)):=by rw [hC];exact ziH (zgl hs1)
   have a3:(zbb (upTo sh.length sh.length (fsT sh)))[s]? =some (.int .i64 (fsT sh s:Nat)):=by have:=zgk (i:=sh.length) (f:=fsT sh) hs1;rw [if_pos hs1] at this;exact ziH this
   have hall:(zbb al).length=P:=by rw [zeO,hai.1,hP]
   have a4:I< (zbb al).length:=by omega
   have a5:=zeN al I p
   have a6:=zeN (zcM log sh p) s (C+1)
   have hms:=zlf hsy hs1
   rw [←hC] at hms
   rw [hms] at a6
   have a7:s< (zbb (zcM log sh p)).length:=by rw [zeO,zeK];exact hs1
   obtain ⟨fs,hfs⟩:∃fs,fs=fsT sh s:=⟨_,rfl⟩
   rw [←hfs] at a3 hfl hI
   have w1:IntKind.i64.wrap ((n:Int)+C)=X:=by rw [wi (by omega) (by omega)];omega
   have w2:IntKind.i64.wrap ((fs:Int)+C)=I:=by rw [wi (by omega) (by omega)];omega
   have w3:IntKind.i64.wrap ((C:Int)+1)=((C+1:Nat):Int):=by rw [wi (by omega) (by omega)];omega
   have w4:IntKind.u32.wrap (X:Int)=X:=wu32 (by omega) (by omega)
   have w5:IntKind.i64.wrap ((log:Int) - W)=((log:Int) - W):=wi (by omega) (by omega)
   have w6:IntKind.i64.wrap ((log:Int) - W+1)=Bt:=by rw [wi (by omega) (by omega)];omega
   have w7:IntKind.i64.wrap ((Y:Int) - P)=BA:=by rw [wi (by omega) (by omega)];omega
   have w8:IntKind.i64.wrap ((p:Int)+1)=(p:Int)+1:=wi (by omega) (by omega)
   obtain ⟨C1,hC1⟩:∃C1,C1=C+1:=⟨_,rfl⟩
   rw [←hC1] at a6 w3
   have hpP:(p:Int)< P:=by omega
   obtain ⟨H4,hH4⟩:∃H4,H4=H3.put (H1.next+3) (.cells (zbb (al.set I p)) 3 true):=⟨_,rfl⟩
   have g41:H4.get (H1.next+5)= .cells (zbb (zcM log sh p)) 3 true:=by rw [hH4,zaa (by omega)];exact gm
   obtain ⟨H5,hH5⟩:∃H5,H5=H4.put (H1.next+5) (.cells (zbb (zcM log sh (p+1))) 3 true):=⟨_,rfl⟩
   have g51:H5.get (H1.next+4)=H3.get (H1.next+4):=by rw [hH5,zaa (by omega),hH4,zaa (by omega)]
   have g52:H5.get (H1.next+1)=H3.get (H1.next+1):=by rw [hH5,zaa (by omega),hH4,zaa (by omega)]
   rw [htb] at g51
   rw [hce] at g52
   have hcl:p*3+3≤(zdX log sh p).length:=by rw [zci,←hP];omega
   have hcs:=zlg (log:=log) (sh:=sh) (i:=p) (by omega)
   rw [hsd,←hBt,←hBA] at hcs
   have hsP:s< 256:=by omega
   simp [s187_0,r0,r1,r6,r7,r11,r57,r58,r59,h6,hpP,zac,gs,a1,hcell2,gm,a2,w1,htb,hfi,a3,w2,hal,kSt,zaB,a4,a5]
   rw [←hH4]
   refine ⟨hs1,by omega,hs1,?_⟩
   simp [g41,a2,w3,hs1]
   simp [g41,a7,a6]
   rw [←hH5,w4]
   refine (zfL X (by omega)).mono ?_
   rintro v H6 ⟨rfl,rfl⟩
   rw [←hW]
   simp [w5,w6,g51,o2,w7,zaC,zaQ,zaw,cellsL,wr,hpP,h6,w8,zaW,g52,hcl,zac]
   have hn5:H6.next=H1.next+7:=by rw [hH5,next_put,hH4,next_put];exact hnx3
   have hH6:∀k,k≠H1.next+3→k≠H1.next+5→H6.get k=H3.get k:=fun k h1 h2=>by rw [hH5,zaa h2,hH4,zaa h1]
   refine ⟨P - (p+1),by omega,p+1,al.set I p,by omega,rfl,by simp [r0],by simp [r1],by simp [r6],by simp [r7],by simp [r11],by simp [r57],by simp [r58],by simp,⟨?_,?_,?_,?_,?_⟩,?_,?_,?_,?_,by rw [next_put];exact hn5⟩
   ·rw [zaa (by omega),hH6 _ (by omega) (by omega)];exact hg3.tb
   ·rw [zad (by omega)]
    have hc2:=hcs
    simp [wr] at hc2
    exact congrArg (fun x=>Blk.cells x 282 true) hc2
   ·rw [zaa (by omega),hH6 _ (by omega) (by omega)];exact hg3.sh
   ·rw [zaa (by omega),hH6 _ (by omega) (by omega)];exact hg3.fi
   ·rw [zaa (by omega),hH5,zaa (by omega),hH4];exact zad (by omega)
   ·have:=hai.step hf' hsy
    rw [←hC,←hfs,←hI] at this;exact this
   ·rw [zaa (by omega),hH5];exact zad (by rw [hH4,next_put];omega)
   ·rw [zaa (by omega),hH6 _ (by omega) (by omega)];exact gs
   ·exact hkp3.trans ⟨by rw [next_put];omega,fun k hk=>by rw [zaa (by omega),hH6 _ (by omega) (by omega)]⟩
  ·have h7:p=P:=by omega
   subst h7
   simp [s187_0,r7,r58,r59,tup]
   exact ⟨⟨al,by rw [←hP] at*;exact hg3,by rw [←hP] at*;exact hai⟩,hkp3⟩
end
theorem Tb.kp {N log:Nat} {sh:List Nat} {H H':Heap} (h:Tb N log sh H) (hk:∀k,N≤k→k< N+5→H'.get k=H.get k):Tb N log sh H':=by
 obtain ⟨al,h1,h2⟩:=h
 exact ⟨al,h1.kp hk,h2⟩
theorem Tb.lt {N log:Nat} {sh:List Nat} {H:Heap} (h:Tb N log sh H):N+5≤H.next:=by
 obtain ⟨al,h1,h2⟩:=h
 have:=zai h1.tb
 omega
section
variable {H:Heap} {N log:Nat} {sh:List Nat}
theorem zqR (h:Tb N log sh H):Wf S 227 [.pointer (some ⟨N+4,0,none⟩)] H fun v H'=>H'=H∧v= .int .i64 log:=by
 refine w227 rfl rfl _ ?_
 obtain ⟨al,h1,h2⟩:=h
 have htb:=h1.tb
 unfold TbB at htb
 simp [s227,kEq,zac,htb]
theorem zoJ (h:Tb N log sh H):Wf S 260 [.pointer (some ⟨N+4,0,none⟩)] H fun v H'=>H'=H∧v= .int .i64 ((2 ^ log:Nat):Int):=by
 refine w260 rfl rfl _ ?_
 obtain ⟨al,h1,h2⟩:=h
 have htb:=h1.tb
 unfold TbB at htb
 simp [s260,kEq,zac,htb]
theorem zrX (h:Tb N log sh H) {p:Nat} (hp:p< 2 ^ log):Wf S 256 [.pointer (some ⟨N+4,0,none⟩),.int .i64 p] H fun v H'=>H'=H∧v= .bool true:=by
 refine w256 rfl rfl _ _ ?_
 have h0:(0:Int)≤p:=by omega
 simp [s256,h0]
 refine (zoJ h).mono ?_
 rintro v H1 ⟨rfl,rfl⟩
 have h1:(p:Int)< ((2 ^ log:Nat):Int):=by omega
 obtain ⟨P,hP⟩:∃P,P=2 ^ log:=⟨_,rfl⟩
 rw [←hP] at h1⊢
 have h2:p< P:=by omega
 simp [h1,h2]
def zoK (log:Nat) (sh:List Nat) (p:Nat):Value:= .agg #[.int .u8 ((zaH log sh).getD p 0:Nat),.int .i64 (zbt log sh p:Nat),.int .i64 (zcK log sh p:Nat)]
theorem zm7 (h:Tb N log sh H) {p:Nat} (hp:p< 2 ^ log):Wf S 252 [.pointer (some ⟨N+4,0,none⟩),.int .i64 p] H fun v H'=>v= .tuple #[zoK log sh p,.bool true]∧Kp H.next H H':=by
 refine w252 rfl rfl _ _ ?_
 have hlt:=h.lt
 simp [s252]
 have h2:Tb N log sh (H.push (.cells [.int .u8 0,.int .i64 0,.int .i64 0] 282 true)):=h.kp fun k _ hk=>zae (by omega)
 refine (zrX h2 hp).mono ?_
 rintro v H1 ⟨rfl,rfl⟩
 obtain ⟨al,h3,h4⟩:=h2
 have htb:=h3.tb
 have hce:=h3.ce
 unfold TbB at htb
 obtain ⟨c0,hc0⟩:∃c0,c0= [Value.int .u8 0,Value.int .i64 0,Value.int .i64 0]:=⟨_,rfl⟩
 have hnl:(H.push (.cells [.int .u8 0,.int .i64 0,.int .i64 0] 282 true)).get H.next= .cells [.int .u8 0,.int .i64 0,.int .i64 0] 282 true:=zaf
 obtain ⟨H2,hH2⟩:∃H2,H2=H.push (.cells [.int .u8 0,.int .i64 0,.int .i64 0] 282 true):=⟨_,rfl⟩
 rw [←hH2] at htb hce hnl⊢
 have hrd:rd (zdX log sh (2 ^ log)) (p*3) 3=some [.int .u8 ((zaH log sh).getD p 0:Nat),.int .i64 (zbt log sh p:Nat),.int .i64 (zcK log sh p:Nat)]:=by
  have:=zkc (f:=zdC log sh (2 ^ log)) (z:=3) (zeL log sh _) (l:=List.range (2 ^ log)) (i:=p) (a:=p) (by simp [hp])
  unfold zdC at this
  rw [if_pos hp] at this
  exact this
 obtain ⟨P,hP⟩:∃P,P=2 ^ log:=⟨_,rfl⟩
 have hpP:p< P:=by omega
 have hpP':(p:Int)< P:=by omega
 rw [←hP] at htb hce hrd
 unfold zoK
 obtain ⟨sy,hsy⟩:∃sy,sy=(zaH log sh).getD p 0:=⟨_,rfl⟩
 obtain ⟨bt,hbt⟩:∃bt,bt=zbt log sh p:=⟨_,rfl⟩
 obtain ⟨ba,hba⟩:∃ba,ba=zcK log sh p:=⟨_,rfl⟩
 rw [←hsy,←hbt,←hba] at hrd⊢
 have hl2:H.next< H2.next:=by rw [hH2];simp
 have hg2:(H2.put H.next (.cells [.int .u8 (sy:Int),.int .i64 (bt:Int),.int .i64 (ba:Int)] 282 true)).get H.next= .cells [.int .u8 (sy:Int),.int .i64 (bt:Int),.int .i64 (ba:Int)] 282 true:=zad hl2
 simp [zac,htb,hce,hrd,hpP,hpP',zaM,zaW,hnl,wr,hg2]
 simp [rd,tup]
 refine ⟨by rw [next_put];omega,fun k hk=>?_⟩
 rw [zaa (by omega),hH2,zae hk]
theorem zqS (h:Tb N log sh H) (hl:log≤9) {p m:Nat} (hp:p< 2 ^ log) (hm:m< 2 ^ zbt log sh p) (hb:zbt log sh p≤20) (hba:zcK log sh p≤100000):Wf S 253 [.pointer (some ⟨N+4,0,none⟩),.int .i64 p,.int .i64 m] H fun v H'=>v= .tuple #[.int .i64 ((zcK log sh p+m:Nat):Int),.bool true]∧Kp H.next H H':=by
 refine w253 rfl rfl _ _ _ ?_
 simp [s253]
 refine (zm7 h hp).mono ?_
 rintro v H1 ⟨rfl,hk⟩
 unfold zoK
 obtain ⟨sy,hsy⟩:∃sy,sy=(zaH log sh).getD p 0:=⟨_,rfl⟩
 obtain ⟨bt,hbt⟩:∃bt,bt=zbt log sh p:=⟨_,rfl⟩
 obtain ⟨ba,hbae⟩:∃ba,ba=zcK log sh p:=⟨_,rfl⟩
 rw [←hbt] at hb hm
 rw [←hbae] at hba
 rw [←hsy,←hbt,←hbae]
 have o1:=shl1 (k:= .i64) (n:=bt) (by omega)
 have p20:2 ^ bt≤2 ^ 20:=Nat.pow_le_pow_right (by omega) hb
 have e20:(2:Nat) ^ 20=1048576:=by decide
 obtain ⟨P,hP⟩:∃P,P=2 ^ bt:=⟨_,rfl⟩
 rw [←hP] at o1 hm p20
 have h1:¬(m:Int)< 0:=by omega
 have h2:¬(P:Int)≤m:=by omega
 have h2':¬P≤m:=by omega
 have hgl:(H1.push (.cells [.int .u8 0,.int .i64 0,.int .i64 0] 282 true)).get H1.next= .cells [.int .u8 0,.int .i64 0,.int .i64 0] 282 true:=zaf
 obtain ⟨H2,hH2⟩:∃H2,H2=H1.push (.cells [.int .u8 0,.int .i64 0,.int .i64 0] 282 true):=⟨_,rfl⟩
 have hl2:H1.next< H2.next:=by rw [hH2];simp
 have hg2:(H2.put H1.next (.cells [.int .u8 (sy:Int),.int .i64 (bt:Int),.int .i64 (ba:Int)] 282 true)).get H1.next= .cells [.int .u8 (sy:Int),.int .i64 (bt:Int),.int .i64 (ba:Int)] 282 true:=zad hl2
 have w1:IntKind.i64.wrap ((ba:Int)+m)=((ba+m:Nat):Int):=by rw [wi (by omega) (by omega)];omega
 rw [←hH2] at hgl
 simp
 rw [←hH2]
 simp [zaW,hgl,wr,zac,hg2,o1,h1,h2,h2',w1,tup]
 refine ⟨by rw [next_put];have:=hk.1;omega,fun k hk2=>?_⟩
 rw [zaa (by have:=hk.1;omega),hH2,zae (by have:=hk.1;omega),hk.2 k hk2]
end
theorem zhz {log:Nat} {sh:List Nat} (hf:Fr log sh) {p:Nat} (hp:p< 2 ^ log):∃s,(zaH log sh)[p]? =some s∧(zaH log sh).getD p 0=s∧s< 256:=by
 obtain ⟨s,hs⟩:∃s,(zaH log sh)[p]? =some s:=⟨_,List.getElem?_eq_getElem (by rw [zdz];exact hp)⟩
 exact ⟨s,hs,by rw [List.getD_eq_getElem?_getD,hs];rfl,by have:=(zgS hf hs).1;have:=hf.len;omega⟩
theorem zm8 {log:Nat} {sh:List Nat} (hf:Fr log sh) {p:Nat} (hp:p< 2 ^ log):zbt log sh p≤log:=by
 obtain ⟨s,hs,_⟩:=zhz hf hp
 obtain ⟨h1,h2,_⟩:=cell_of hf hs
 omega
structure FdI (H1:Heap) (N b:Nat) (sv:Value) (s:Bytes) (log:Nat) (sh:List Nat) (n st0 n0:Nat) (d:Nat) (e:Fe) (H:Heap) (i st nl:Nat) (pre:List Nat) (v:Value):Prop where
 hi:i≤n
 hd:d=n - i
 dec:zbX log sh (zcu s) n st0 n0=(zbX log sh (zcu s) (n - i) st nl).map fun r=>(pre++r.1,r.2)
 len:pre.length=i
 hst:st< 2 ^ log
 hnl:nl≤8*s.length
 e0:e 0= .pointer (some ⟨N+4,0,none⟩)
 e8:e 8= .pointer (some ⟨b,0,none⟩)
 e11:e 11= .int .i64 st
 e12:e 12=v
 e47:e 47= .int .i64 n
 e48:e 48= .int .i64 i
 hb:H.get b=BkB sv nl
 acc:Acc 5 1 H1.next H.next H v i (bys pre)
 kq:Kq b H1 H
section
variable {H:Heap} {N log:Nat} {sh:List Nat} {s:Bytes} {a:Option Addr} {c:Nat}
def FdO (H:Heap) (v:Value) (H':Heap):Option (List Nat)→Prop
 |none=>v= .tuple #[.slice none 0 0,.bool false]
 |some l=>∃w,v= .tuple #[w,.bool true]∧Acc 5 1 H.next H'.next H' w l.length (bys l)
theorem zlh (h:Tb N log sh H) (hf:Fr log sh) (hr:zaJ H 5 1 s.length a=some (bvs s)) (ha:0< s.length→∃bb o,a=some ⟨bb,o,none⟩) (hs:s.length≤100000) (n:Nat) (hn:n≤1048576):
  Wf S 238 [.pointer (some ⟨N+4,0,none⟩),.slice a s.length c,.int .i64 n] H fun v H'=>Kp H.next H H'∧FdO H v H' (zcv log sh s n):=by
 refine w238 rfl rfl _ _ _ ?_
 have hlt:=h.lt
 have hn0:¬(n:Int)< 0:=by omega
 have hn1:¬(1048576:Int)< n:=by omega
 have hn1':¬1048576< n:=by omega
 simp [s238]
 refine (zqO hr ha (by omega)).mono ?_
 intro v H1 hv
 cases ho:opN s with
 |none=>
  rw [ho] at hv
  obtain ⟨rfl,rfl⟩:=hv
  have hz:zcv log sh s n=none:=by unfold zcv;rw [ho];rfl
  rw [hz]
  simp [tup]
  exact ⟨Kp.refl _ _,rfl⟩
 |some m=>
  rw [ho] at hv
  obtain ⟨sv,b,rfl,hb1,hb2,hgb,hby,hkp⟩:=hv
  have hz:zcv log sh s n=if log≤m then (zbX log sh (zcu s) n (zax s (m - log) log) (m - log)).bind fun r=>if r.2.1=0∧r.2.2=0 then some r.1 else none else none:=by unfold zcv;rw [ho];rfl
  have hm8:m≤8*s.length:=by
   unfold opN at ho
   cases hl:s.getLast? with
   |none=>rw [hl] at ho;cases ho
   |some x=>
    rw [hl] at ho
    simp only at ho
    split at ho
    ·cases ho
    ·cases ho
     have hx:=x.toNat_lt
     obtain ⟨_,h2,_,_⟩:=zc6 8 x.toNat (by omega) (by omega) (by omega)
     have:0< s.length:=by cases s with|nil=>simp at hl|cons=>simp
     omega
  have hT1:Tb N log sh H1:=h.kp fun k _ hk=>hkp.2 k (by omega)
  simp [kEq,hn0,hn1,hn1']
  refine (zqR hT1).mono ?_
  rintro v H2 ⟨rfl,rfl⟩
  try simp
  refine (ziC hgb hby (by omega) hm8 log (by have:=hf.hi;omega)).mono ?_
  intro v H3 hv
  by_cases hlm:log≤m
  ·rw [if_pos hlm] at hv hz
   obtain ⟨rfl,rfl⟩:=hv
   have hNl:=za6 s (m - log) log
   have p9:2 ^ log≤2 ^ 9:=Nat.pow_le_pow_right (by omega) hf.hi
   have e9:(2:Nat) ^ 9=512:=by decide
   obtain ⟨st0,hst0⟩:∃st0,st0=zax s (m - log) log:=⟨_,rfl⟩
   obtain ⟨n0,hn0e⟩:∃n0,n0=m - log:=⟨_,rfl⟩
   rw [←hst0] at hNl
   rw [←hn0e,show zax s n0 log=st0 by rw [hst0,hn0e]] at hz⊢
   have w1:IntKind.i64.wrap (st0:Int)=st0:=wi (by omega) (by omega)
   simp [w1]
   have hkq0:Kq b H2 (H2.put b (BkB sv n0)):=Kq.put
   refine l238_0 S (fun d e H'=>∃i st nl pre v,FdI H2 N b sv s log sh n st0 n0 d e H' i st nl pre v) n ⟨0,st0,n0,[],.slice none 0 0,by omega,by omega,by simp,rfl,hNl,by omega,by simp,by simp,by simp,by simp,by simp,by simp,zad hb2,by simpa [bys] using Acc.nil,hkq0⟩ ?_
   rintro d e H' ⟨i,st,nl,pre,v,hI⟩
   obtain ⟨hi,rfl,hdec,hlen,hst,hnl,e0,e8,e11,e12,e47,e48,hbb,hacc,hkq⟩:=hI
   have hkpH:Kp H.next H H':=⟨by have:=hkp.1;have:=hkq.1;omega,fun k hk=>(hkq.2 k (by have:=hkp.1;omega) (by omega)).trans (hkp.2 k hk)⟩
   by_cases h3:i< n
   ·have h3':(i:Int)< n:=by omega
    have hT2:Tb N log sh H':=h.kp fun k _ hk=>hkpH.2 k (by omega)
    simp [s238_0,e0,e8,e11,e12,e47,e48,h3,h3']
    refine (zm7 hT2 hst).mono ?_
    rintro v1 H4 ⟨rfl,hk4⟩
    unfold zoK
    obtain ⟨s1,hs1,hs2,hs3⟩:=zhz hf hst
    have hble:=zm8 hf hst
    have hhi:=hf.hi
    have hbb4:H4.get b=BkB sv nl:=by rw [hk4.2 b (zai hbb)];exact hbb
    have hkq4:Kq b H2 H4:=hkq.trans (Kq.of hk4)
    have hT4:Tb N log sh H4:=h.kp fun k _ hk=>(hk4.2 k (by have:=hkpH.1;omega)).trans (hkpH.2 k (by omega))
    have hacc4:Acc 5 1 H2.next H4.next H4 v i (bys pre):=(hacc.kp fun k _ hk=>hk4.2 k hk).mono hk4.1
    rw [hs2]
    obtain ⟨bt,hbt⟩:∃bt,bt=zbt log sh st:=⟨_,rfl⟩
    obtain ⟨ba,hba⟩:∃ba,ba=zcK log sh st:=⟨_,rfl⟩
    have hNx:=fun {m:Nat} {HX:Heap} (hT:Tb N log sh HX) (hm:m< 2 ^ zbt log sh st)=>zqS (H:=HX) hT hhi hst hm (by omega) (by have:=(zge hf hs1 hm).2;omega)
    have hbasm:=fun {m:Nat} (hm:m< 2 ^ zbt log sh st)=>(zge hf hs1 hm).2
    rw [←hbt] at hble hNx hbasm
    rw [←hba] at hNx hbasm
    rw [←hbt,←hba]
    have hgl:(H4.push (.cells [.int .u8 0,.int .i64 0,.int .i64 0] 282 true)).get H4.next= .cells [.int .u8 0,.int .i64 0,.int .i64 0] 282 true:=zaf
    have hk5:Kp H4.next H4 (H4.push (.cells [.int .u8 0,.int .i64 0,.int .i64 0] 282 true)):=Kp.push (Nat.le_refl _)
    obtain ⟨H5,hH5⟩:∃H5,H5=H4.push (.cells [.int .u8 0,.int .i64 0,.int .i64 0] 282 true):=⟨_,rfl⟩
    have hl5:H4.next< H5.next:=by rw [hH5];simp
    have hg6:(H5.put H4.next (.cells [.int .u8 (s1:Int),.int .i64 (bt:Int),.int .i64 (ba:Int)] 282 true)).get H4.next= .cells [.int .u8 (s1:Int),.int .i64 (bt:Int),.int .i64 (ba:Int)] 282 true:=zad hl5
    rw [←hH5] at hgl hk5
    have hk6:Kp H4.next H4 (H5.put H4.next (.cells [.int .u8 (s1:Int),.int .i64 (bt:Int),.int .i64 (ba:Int)] 282 true)):=hk5.trans (Kp.put (Nat.le_refl _))
    simp
    rw [←hH5]
    simp [zaW,hgl,wr,zac,hg6]
    obtain ⟨H6,hH6⟩:∃H6,H6=H5.put H4.next (.cells [.int .u8 (s1:Int),.int .i64 (bt:Int),.int .i64 (ba:Int)] 282 true):=⟨_,rfl⟩
    rw [←hH6] at hk6 hg6⊢
    have hbb6:H6.get b=BkB sv nl:=by rw [hk6.2 b (zai hbb4)];exact hbb4
    have hkq6:Kq b H2 H6:=hkq4.trans (Kq.of hk6)
    refine (ziC hbb6 (hby.kq hkq6) (by omega) hnl bt (by omega)).mono ?_
    intro v1 H7 hv1
    have hstep:∀f,zbX log sh (zcu s) (f+1) st nl=if bt≤nl then (zbX log sh (zcu s) f (ba+zcu s / 2 ^ (nl - bt) % 2 ^ bt) (nl - bt)).map fun r=>(s1::r.1,r.2) else none:=fun f=>by
     rw [hbt,hba];show (if _ then _ else _)=_;rw [hs2]
    have hni:n - i=(n - (i+1))+1:=by omega
    by_cases hfit:bt≤nl
    ·rw [if_pos hfit] at hv1
     obtain ⟨rfl,rfl⟩:=hv1
     rw [hni,hstep,if_pos hfit,zkp (by omega)] at hdec
     have hMl:=za6 s (nl - bt) bt
     obtain ⟨M,hM⟩:∃M,M=zax s (nl - bt) bt:=⟨_,rfl⟩
     rw [←hM] at hdec hMl⊢
     have hg7:(H6.put b (BkB sv (nl - bt))).get H4.next= .cells [.int .u8 (s1:Int),.int .i64 (bt:Int),.int .i64 (ba:Int)] 282 true:=by
      rw [zaa (by have:=zai hbb4;omega)];exact hg6
     have hacc7:Acc 5 1 H2.next H4.next (H6.put b (BkB sv (nl - bt))) v i (bys pre):=hacc4.kp fun k hk1 hk2=>by rw [zaa (by omega),hk6.2 k hk2]
     have hkq7:Kq b H2 (H6.put b (BkB sv (nl - bt))):=hkq6.trans Kq.put
     have hbb7:(H6.put b (BkB sv (nl - bt))).get b=BkB sv (nl - bt):=zad (zai hbb6)
     have hnx7:(H6.put b (BkB sv (nl - bt))).next=H6.next:=next_put
     obtain ⟨H7,hH7⟩:∃H7,H7=H6.put b (BkB sv (nl - bt)):=⟨_,rfl⟩
     rw [←hH7] at hg7 hacc7 hkq7 hbb7 hnx7⊢
     have pbt:2 ^ bt≤2 ^ 9:=Nat.pow_le_pow_right (by omega) (by omega)
     have w2:IntKind.i64.wrap (M:Int)=M:=wi (by omega) (by omega)
     obtain ⟨v2,H8,hap,hA8,hn8,hk8⟩:=hacc7.app (bytes:=1) (new:= [.int .u8 (s1:Int)]) hkq7.1 (by have:=hk6.1;omega) rfl (by unfold zag;omega)
     have w3:IntKind.i64.wrap ((i:Int)+1)=(i:Int)+1:=wi (by omega) (by omega)
     simp [e0,e11,e12,e47,e48,zac,hg7,zaC,zaQ,zaw,cellsL,wr,zaJ,rd,hap,w2]
     have hkp8:Kp H.next H H8:=⟨by have:=hkp.1;have:=hkq7.1;omega,fun k hk=>by
      rw [hk8 k (by have:=hkp.1;have:=hkq7.1;omega) (.inl (by have:=hkp.1;omega))]
      exact (hkq7.2 k (by have:=hkp.1;omega) (by omega)).trans (hkp.2 k hk)⟩
     have hT8:Tb N log sh H8:=h.kp fun k _ hk=>hkp8.2 k (by omega)
     refine (hNx hT8 hMl).mono ?_
     rintro v3 H9 ⟨rfl,hk9⟩
     simp [w3]
     have hsb:=hbasm hMl
     refine ⟨n - (i+1),by omega,i+1,ba+M,nl - bt,pre++ [s1],v2,by omega,rfl,?_,by simp [hlen],hsb,by omega,by simp [e0],by simp [e8],by simp,by simp,by simp [e47],by simp,?_,?_,?_⟩
     ·rw [hdec,Option.map_map]
      congr 1
      funext r
      simp
     ·rw [hk9.2 b (by have:=hkq7.1;have:=zai hbb;omega),hk8 b (by have:=zai hbb7;omega) (.inl hb2)];exact hbb7
     ·have:=(hA8.kp (H':=H9) fun k _ hk=>hk9.2 k hk).mono hk9.1
      simpa [bys] using this
     ·refine ⟨by have:=hkq7.1;have:=hk9.1;omega,fun k hk hkb=>?_⟩
      rw [hk9.2 k (by have:=hkq7.1;omega),hk8 k (by have:=hkq7.1;omega) (.inl hk)]
      exact hkq7.2 k hk hkb
    ·rw [if_neg hfit] at hv1
     obtain ⟨rfl,rfl⟩:=hv1
     have hz2:zbX log sh (zcu s) n st0 n0=none:=by rw [hdec,hni,hstep,if_neg hfit];rfl
     rw [hz,hz2]
     simp [tup]
     exact ⟨⟨by have:=hkp.1;have:=hkq6.1;omega,fun k hk=>(hkq6.2 k (by have:=hkp.1;omega) (by omega)).trans (hkp.2 k hk)⟩,rfl⟩
   ·have h5:i=n:=by omega
    subst h5
    have hd0:zbX log sh (zcu s) (i - i) st nl=some ([],st,nl):=by rw [Nat.sub_self];rfl
    rw [hd0] at hdec
    simp only [Option.map_some,List.append_nil] at hdec
    rw [hdec] at hz
    simp only [Option.bind_some] at hz
    by_cases hs0:st=0
    ·subst hs0
     simp [s238_0,e8,e11,e12,e47,e48]
     refine (zm5 hbb).mono ?_
     rintro v1 H4 ⟨rfl,rfl⟩
     by_cases hn00:nl=0
     ·subst hn00
      rw [if_pos ⟨rfl,rfl⟩] at hz
      rw [hz]
      simp [tup]
      refine ⟨hkpH,v,by rw [e12],?_⟩
      rw [hlen]
      rcases hacc with ⟨h1,h2,h3⟩|⟨bb,cc,h1,h2,h3⟩
      ·exact .inl ⟨h1,h2,h3⟩
      ·exact .inr ⟨bb,cc,by have:=hkp.1;omega,h2,h3⟩
     ·rw [if_neg (fun h=>hn00 h.2)] at hz
      have hnl0:0< nl:=by omega
      rw [hz]
      simp [hnl0,tup]
      exact ⟨hkpH,rfl⟩
    ·rw [if_neg (fun h=>hs0 h.1)] at hz
     have hs0':¬(st:Int)=0:=by omega
     rw [hz]
     simp [s238_0,e8,e11,e12,e47,e48,hs0,hs0',tup]
     exact ⟨hkpH,rfl⟩
  ·rw [if_neg hlm] at hv hz
   obtain ⟨rfl,rfl⟩:=hv
   rw [hz]
   simp [tup]
   exact ⟨hkp,rfl⟩
end
set_option maxHeartbeats 4000000
theorem ziI {S:Sys} {H:Heap} {K:Kv} {b len:Nat} {cs:List Value} {t:TypeId} {rw:Bool} (hg:H.get b= .cells cs t rw) (hl:len≤cs.length) {m:Nat} (hm:m≤len):
  run S (.sla t len 1 (.c (.pointer (some ⟨b,0,none⟩))) none (some (.c (.int .i64 m)))) [] H K=K (.slice (some ⟨b,0,none⟩) m len) H:=by
 show oT ((zgw H t len 1 ⟨b,0,none⟩ 0 (m:Int)).map (·,H)) K=_
 have h1:(m:Int)≤len:=by omega
 simp only [zgw,hg,zac]
 by_cases h0:len=0
 ·subst h0
  have:m=0:=by omega
  subst this
  simp
 ·have:¬0=len:=fun e=>h0 e.symm
  simp [hl,h1,this]
theorem zm9 {S:Sys} {H:Heap} {K:Kv} {b len:Nat} {cs:List Value} {t:TypeId} {rw:Bool} (hg:H.get b= .cells cs t rw) (hl:len≤cs.length) {m:Nat} (hm:m< len):
  run S (.sla t len 1 (.c (.pointer (some ⟨b,0,none⟩))) (some (.c (.int .i64 m))) none) [] H K=K (.slice (some ⟨b,m,none⟩) (len - m) (len - m)) H:=by
 show oT ((zgw H t len 1 ⟨b,0,none⟩ (m:Int) (len:Int)).map (·,H)) K=_
 have h1:(m:Int)≤len:=by omega
 have h2:¬m=len:=by omega
 have h3:((len:Int) - m).toNat=len - m:=by omega
 simp [zgw,hg,zac,hl,h1,h2,h3]
theorem zna {S:Sys} {H:Heap} {K:Kv} {b len:Nat} {cs:List Value} {t:TypeId} {rw:Bool} (hg:H.get b= .cells cs t rw) (hl:len≤cs.length):
  run S (.sla t len 1 (.c (.pointer (some ⟨b,0,none⟩))) none none) [] H K=K (.slice (some ⟨b,0,none⟩) len len) H:=by
 have h:=ziI (S:=S) (K:=K) hg hl (m:=len) (Nat.le_refl _)
 exact h
def rcl (r:Rct):List Value:= [.int .i64 r.a,.int .i64 r.b,.int .i64 r.c]
def rcv (r:Rct):Value:= .agg (rcl r).toArray
section
variable {H:Heap}
theorem zkt (c:Nat) (hc:c< 256):Wf S 240 [.int .u8 c] H fun v H'=>H'=H∧v=if c≤27 then .tuple #[.int .i64 (cdN c:Nat),.bool true] else .tuple #[.int .i64 0,.bool false]:=by
 refine w240 rfl rfl _ ?_
 have w0:IntKind.i64.wrap (c:Int)=c:=wi (by omega) (by omega)
 by_cases h1:c< 16
 ·have h1':(c:Int)< 16:=by omega
  have h2:c≤27:=by omega
  simp [s240,h1,h1',h2,cdN,tup]
 ·have h1':¬(c:Int)< 16:=by omega
  by_cases h2:c≤27
  ·have h2':(c:Int)≤27:=by omega
   have w1:IntKind.i64.wrap ((c:Int) - 11)=(c:Int) - 11:=wi (by omega) (by omega)
   have w2:IntKind.i64.wrap ((c:Int) - 11 - 1)=((c - 12:Nat):Int):=by rw [wi (by omega) (by omega)];omega
   simp [s240,h1,h1',h2,h2',cdN,tup,w0,w1,w2]
  ·have h2':¬(c:Int)≤27:=by omega
   simp [s240,h1,h1',h2,h2',tup]
theorem znb {v n:Nat} (h:v< 2 ^ n) (hn:n≤32):wd v≤n:=by
 by_cases h0:v=0
 ·subst h0;rw [zoq];omega
 ·exact (zc6 n v h hn (by omega)).2.1
theorem zoL (c m:Nat) (hc:c≤27) (hm:m< 2 ^ cdN c):Wf S 241 [.int .u8 c,.int .u32 m] H fun v H'=>H'=H∧v= .tuple #[.int .i64 (cdV c m:Nat),.bool true]:=by
 refine w241 rfl rfl _ _ ?_
 have hn15:cdN c≤15:=by unfold cdN;split<;>omega
 have p15:2 ^ cdN c≤2 ^ 15:=Nat.pow_le_pow_right (by omega) hn15
 have e15:(2:Nat) ^ 15=32768:=by decide
 have hwd:=znb hm (by omega)
 simp [s241]
 refine (zkt c (by omega)).mono ?_
 rintro v H1 ⟨rfl,rfl⟩
 rw [if_pos hc]
 simp
 refine (zfL m (by omega)).mono ?_
 rintro v H2 ⟨rfl,rfl⟩
 obtain ⟨n,hn⟩:∃n,n=cdN c:=⟨_,rfl⟩
 have hcv:cdV c m=if c< 16 then c else 2 ^ (c - 12)+m:=rfl
 have hcn:n=if c< 16 then 0 else c - 12:=hn
 rw [←hn] at hn15 p15 hwd⊢
 obtain ⟨W,hW⟩:∃W,W=wd m:=⟨_,rfl⟩
 rw [←hW] at hwd⊢
 have h3:¬n< W:=by omega
 have h3':¬(n:Int)< W:=by omega
 have w0:IntKind.i64.wrap (c:Int)=c:=wi (by omega) (by omega)
 by_cases h1:c< 16
 ·have h1':(c:Int)< 16:=by omega
  simp [h3,h3',h1,h1',w0,tup,hcv]
 ·have h1':¬(c:Int)< 16:=by omega
  rw [if_neg h1] at hcn hcv
  rw [←hcn] at hcv
  have o1:=shl1 (k:= .i64) (n:=n) (by omega)
  obtain ⟨P,hP⟩:∃P,P=2 ^ n:=⟨_,rfl⟩
  rw [←hP] at o1 hcv p15
  have hm2:m< 2 ^ n:=by rw [hn];exact hm
  have w1:IntKind.i64.wrap (m:Int)=m:=wi (by omega) (by omega)
  have w2:IntKind.i64.wrap ((P:Int)+m)=((P+m:Nat):Int):=by rw [wi (by omega) (by omega)];omega
  simp [h3,h3',h1,h1',o1,w1,w2,tup,hcv]
theorem cright3_t (o:Int):Wf S 180 [.int .i64 o] H fun v H'=>H'=H∧v= .bool (decide (1≤o∧o≤65533)):=by
 refine w180 rfl rfl _ ?_
 by_cases h:1≤o
 ·simp [s180,h]
 ·simp [s180,h]
def rcI (r:Rct) (o:Int):Int:=if r.a=o then 0 else if r.b=o then 1 else if r.c=o then 2 else -1
theorem zoM (r:Rct) (o:Int) {b:Nat} {rw:Bool} (hg:H.get b= .cells (rcl r) 3 rw):Wf S 181 [.slice (some ⟨b,0,none⟩) 3 3,.int .i64 o] H fun v H'=>H'=H∧v= .int .i64 (rcI r o):=by
 refine w181 rfl rfl _ _ ?_
 obtain ⟨x,y,z⟩:=r
 unfold rcl at hg
 simp only at hg
 simp [s181]
 have w1:IntKind.i64.wrap 1=1:=by decide
 have w2:IntKind.i64.wrap 2=2:=by decide
 have w3:IntKind.i64.wrap 3=3:=by decide
 refine u181_0 S ?_
 by_cases h1:o=x
 ·subst h1
  simp [s181_0,zac,hg,rcI]
 ·have h1':¬x=o:=fun e=>h1 e.symm
  simp [s181_0,zac,hg,h1,w1]
  refine u181_0 S ?_
  by_cases h2:o=y
  ·subst h2
   simp [s181_0,zac,hg,rcI,h1']
  ·have h2':¬y=o:=fun e=>h2 e.symm
   simp [s181_0,zac,hg,h2,w2]
   refine u181_0 S ?_
   by_cases h3:o=z
   ·subst h3
    simp [s181_0,zac,hg,rcI,h1',h2']
   ·have h3':¬z=o:=fun e=>h3 e.symm
    simp [s181_0,zac,hg,h3,w3]
    refine u181_0 S ?_
    simp [s181_0,rcI,h1',h2',h3']
theorem zhA {S:Sys} {H:Heap} {K:Kv} {ab ao n c bb bo m c2 t:Nat} {cs cs2:List Value} {rw2:Bool} (hg:H.get ab= .cells cs t true) (hg2:H.get bb= .cells cs2 t rw2) (h1:bo+min m n≤cs2.length) (h2:ao+min m n≤cs.length):
  run S (.cpy t 1 (.c (.slice (some ⟨ab,ao,none⟩) n c)) (.c (.slice (some ⟨bb,bo,none⟩) m c2))) [] H K=K (.int .i64 (min m n:Nat)) (H.put ab (.cells (wr cs ao ((cs2.drop bo).take (min m n))) t true)):=by
 have hr:zaJ H t 1 (min m n) (some ⟨bb,bo,none⟩)=some ((cs2.drop bo).take (min m n)):=by
  simp only [zaJ,hg2,if_true,rd]
  rw [if_pos (by omega),Nat.mul_one]
 have hlen:((cs2.drop bo).take (min m n)).length=min m n:=by simp;omega
 show oT (kop (.cpy t 1 (.c (.slice (some ⟨ab,ao,none⟩) n c)) (.c (.slice (some ⟨bb,bo,none⟩) m c2))) [] H) K=_
 simp only [kop,Env.ev,hr,Option.bind_some,hg,hlen]
 rw [if_pos (by simp;exact h2)]
 rfl
theorem zku (r:Rct) (o:Int) (at_:Nat) (hat:at_≤3):Wf S 182 [rcv r,.int .i64 at_,.int .i64 o] H fun v H'=>Kp H.next H H'∧v=rcv (if at_=0 then ⟨o,r.b,r.c⟩ else if at_=1 then ⟨o,r.a,r.c⟩ else ⟨o,r.a,r.b⟩):=by
 refine w182 rfl rfl _ _ _ ?_
 obtain ⟨x,y,z⟩:=r
 obtain ⟨A,hA⟩:∃A:List Value,A= [.int .i64 x,.int .i64 y,.int .i64 z]:=⟨_,rfl⟩
 obtain ⟨Z,hZ⟩:∃Z:List Value,Z= [.int .i64 0,.int .i64 0,.int .i64 0]:=⟨_,rfl⟩
 have hAl:A.length=3:=by rw [hA];rfl
 have hZl:Z.length=3:=by rw [hZ];rfl
 obtain ⟨N,hN⟩:∃N,N=H.next:=⟨_,rfl⟩
 obtain ⟨m,hm⟩:∃m,m=min at_ 2:=⟨_,rfl⟩
 have hmi:min (at_:Int) 2=m:=by omega
 obtain ⟨H2,hH2⟩:∃H2,H2=(H.push (.cells A 3 true)).push (.cells Z 3 true):=⟨_,rfl⟩
 have n2:H2.next=N+2:=by rw [hH2,hN];simp
 have a20:H2.get N= .cells A 3 true:=by rw [hH2,hN,zae (by simp)];exact zaf
 have a21:H2.get (N+1)= .cells Z 3 true:=by rw [hH2,hN,show H.next+1=(H.push (.cells A 3 true)).next by simp];exact zaf
 have k2:Kp H.next H H2:=by rw [hH2];exact (Kp.push (Nat.le_refl _)).trans (Kp.push (by simp))
 obtain ⟨H3,hH3⟩:∃H3,H3=H2.push (.cells Z 3 true):=⟨_,rfl⟩
 have n3:H3.next=N+3:=by rw [hH3];simp [n2]
 have a32:H3.get (N+2)= .cells Z 3 true:=by rw [hH3,←n2];exact zaf
 have a30:H3.get N= .cells A 3 true:=by rw [hH3,zae (by omega)];exact a20
 have a31:H3.get (N+1)= .cells Z 3 true:=by rw [hH3,zae (by omega)];exact a21
 obtain ⟨H4,hH4⟩:∃H4,H4=H3.put (N+2) (.cells A 3 true):=⟨_,rfl⟩
 have a42:H4.get (N+2)= .cells A 3 true:=by rw [hH4];exact zad (by omega)
 have a40:H4.get N= .cells A 3 true:=by rw [hH4,zaa (by omega)];exact a30
 have a41:H4.get (N+1)= .cells Z 3 true:=by rw [hH4,zaa (by omega)];exact a31
 have n4:H4.next=N+3:=by rw [hH4,next_put];exact n3
 have hcp:=fun K=>zhA (S:=S) (K:=K) (H:=H4) (n:=2) (c:=2) (m:=m) (c2:=3) (ao:=1) (bo:=0) a42 a40 (by rw [hAl];omega) (by rw [hAl];omega)
 obtain ⟨W,hW⟩:∃W,W=wr A 1 ((A.drop 0).take (min m 2)):=⟨_,rfl⟩
 obtain ⟨H5,hH5⟩:∃H5,H5=H4.put (N+2) (.cells W 3 true):=⟨_,rfl⟩
 rw [←hW,←hH5] at hcp
 have hWl:W.length=3:=by rw [hW,ze0 (by simp [hAl];omega)];exact hAl
 have a52:H5.get (N+2)= .cells W 3 true:=by rw [hH5];exact zad (by omega)
 have n5:H5.next=N+3:=by rw [hH5,next_put];exact n4
 obtain ⟨H6,hH6⟩:∃H6,H6=H5.put (N+2) (.cells (W.set 0 (.int .i64 o)) 3 true):=⟨_,rfl⟩
 have a62:H6.get (N+2)= .cells (W.set 0 (.int .i64 o)) 3 true:=by rw [hH6];exact zad (by omega)
 have a61:H6.get (N+1)= .cells Z 3 true:=by rw [hH6,zaa (by omega),hH5,zaa (by omega)];exact a41
 have n6:H6.next=N+3:=by rw [hH6,next_put];exact n5
 obtain ⟨V,hV⟩:∃V,V=W.set 0 (.int .i64 o):=⟨_,rfl⟩
 rw [←hV] at a62 hH6
 have hVl:V.length=3:=by rw [hV,List.length_set];exact hWl
 have hVe:V=rcl (if at_=0 then ⟨o,y,z⟩ else if at_=1 then ⟨o,x,z⟩ else ⟨o,x,y⟩):=by
  rw [hV,hW,hm,hA]
  match at_,hat with
  |0,_=>rfl
  |1,_=>rfl
  |2,_=>rfl
  |3,_=>rfl
 have hgoal:rcv (if at_=0 then ⟨o,y,z⟩ else if at_=1 then ⟨o,x,z⟩ else ⟨o,x,y⟩)= .agg V.toArray:=by rw [hVe];rfl
 have h7:∀H7,H7=H6.put (N+1) (.cells V 3 true)→H7.get (N+1)= .cells V 3 true∧Kp H.next H H7:=by
  rintro H7 rfl
  refine ⟨zad (by omega),⟨by rw [next_put];omega,fun k hk=>?_⟩⟩
  rw [zaa (by omega),hH6,zaa (by omega),hH5,zaa (by omega),hH4,zaa (by omega),hH3,zae (by omega)]
  exact k2.2 k hk
 have hrv:rcv ⟨x,y,z⟩= .agg A.toArray:=by rw [hA];rfl
 simp only [hgoal]
 rw [hrv]
 have hAt:A.take 3=A:=List.take_of_length_le (by omega)
 have hVt:V.take 3=V:=List.take_of_length_le (by omega)
 simp [s182,zaw,cellsL,←hZ,←hN,←hH2,zaM,a20,rd,hAl,hAt,←hH3,n2,zaW,a32,hZl,wr,←hH4,hmi]
 have hZd:Z.drop 3= []:=List.drop_eq_nil_of_le (by omega)
 have sF:∀K:Kv,run S (.sla 3 3 1 (.c (.pointer (some ⟨N+2,0,none⟩))) (some (.c (.int .i64 1))) none) [] H4 K=K (.slice (some ⟨N+2,1,none⟩) 2 2) H4:=fun K=>zm9 (S:=S) (K:=K) (len:=3) a42 (by omega) (m:=1) (by omega)
 have sN:∀K:Kv,run S (.sla 3 3 1 (.c (.pointer (some ⟨N,0,none⟩))) none (some (.c (.int .i64 m)))) [] H4 K=K (.slice (some ⟨N,0,none⟩) m 3) H4:=fun K=>ziI (S:=S) (K:=K) (len:=3) a40 (by omega) (m:=m) (by omega)
 rw [hZd,List.append_nil,←hH4,sF,sN,hcp]
 have hst:kSt H5 (.pointer (some (zac ⟨N+2,0,none⟩ 0))) (.int .i64 o)=some H6:=by
  simp [kSt,zac,a52,hWl,zaB]
  rw [hH6,hV]
 have hZd1:List.drop V.length Z= []:=List.drop_eq_nil_of_le (by omega)
 simp [hst,a62,hVl,hVt,a61,hZl,hZd]
 obtain ⟨g1,g2⟩:=h7 _ rfl
 rw [←hN] at g2
 simp [g1,hVl,hVt,tup]
 exact g2
theorem znc {r:Rct} {o:Int}:rcB r o=if r.a=o then ⟨o,r.b,r.c⟩ else if r.b=o then ⟨o,r.a,r.c⟩ else ⟨o,r.a,r.b⟩:=rfl
theorem znd (r:Rct) (o:Int) (ho:o≤4611686018427387904) (ho2:-4611686018427387904≤o):Wf S 147 [rcv r,.int .i64 o] H fun v H'=>Kp H.next H H'∧v=if 1≤o∧o≤65533 then .tuple #[.int .i64 (rcN r o),rcv (rcB r o),.bool true] else .tuple #[.int .i64 0,rcv r,.bool false]:=by
 refine w147 rfl rfl _ _ ?_
 obtain ⟨A,hA⟩:∃A:List Value,A=rcl r:=⟨_,rfl⟩
 obtain ⟨Z,hZ⟩:∃Z:List Value,Z= [.int .i64 0,.int .i64 0,.int .i64 0]:=⟨_,rfl⟩
 have hAl:A.length=3:=by rw [hA];rfl
 have hZl:Z.length=3:=by rw [hZ];rfl
 have hAt:A.take 3=A:=List.take_of_length_le (by omega)
 have hZd:Z.drop 3= []:=List.drop_eq_nil_of_le (by omega)
 obtain ⟨N,hN⟩:∃N,N=H.next:=⟨_,rfl⟩
 obtain ⟨H2,hH2⟩:∃H2,H2=(H.push (.cells A 3 true)).push (.cells Z 3 true):=⟨_,rfl⟩
 have n2:H2.next=N+2:=by rw [hH2,hN];simp
 have a20:H2.get N= .cells A 3 true:=by rw [hH2,hN,zae (by simp)];exact zaf
 have a21:H2.get (N+1)= .cells Z 3 true:=by rw [hH2,hN,show H.next+1=(H.push (.cells A 3 true)).next by simp];exact zaf
 have k2:Kp H.next H H2:=by rw [hH2];exact (Kp.push (Nat.le_refl _)).trans (Kp.push (by simp))
 have hrv:rcv r= .agg A.toArray:=by rw [hA];rfl
 have put1:∀(H3:Heap) (r':Rct),Kp H2.next H2 H3→(H3.put (N+1) (.cells (rcl r') 3 true)).get (N+1)= .cells (rcl r') 3 true∧Kp N H (H3.put (N+1) (.cells (rcl r') 3 true)):=fun H3 r' hk=>by
  refine ⟨zad (by have:=hk.1;omega),⟨by rw [next_put];have:=hk.1;omega,fun k hk1=>?_⟩⟩
  rw [zaa (by omega),hk.2 k (by omega)]
  exact k2.2 k (by omega)
 have get1:∀(H3:Heap),Kp H2.next H2 H3→H3.get (N+1)= .cells Z 3 true:=fun H3 hk=>(hk.2 _ (by omega)).trans a21
 have get0:∀(H3:Heap),Kp H2.next H2 H3→H3.get N= .cells A 3 true:=fun H3 hk=>(hk.2 _ (by omega)).trans a20
 have rt3:∀r':Rct,(rcl r').length=3∧(rcl r').take 3=rcl r':=fun r'=>⟨rfl,rfl⟩
 rw [hrv]
 simp [s147,zaw,cellsL,←hZ,←hN,←hH2]
 refine (cright3_t o).mono ?_
 rintro v H3 ⟨rfl,hv⟩
 by_cases h1:1≤o∧o≤65533
 ·rw [decide_eq_true h1] at hv
  subst hv
  have sA:∀K:Kv,run S (.sla 3 3 1 (.c (.pointer (some ⟨N,0,none⟩))) none none) [] H3 K=K (.slice (some ⟨N,0,none⟩) 3 3) H3:=fun K=>zna (S:=S) (K:=K) (len:=3) a20 (by omega)
  simp [sA]
  refine (zoM r o (by rw [hA] at a20;exact a20)).mono ?_
  rintro v H4 ⟨rfl,rfl⟩
  rw [if_pos h1]
  by_cases h2:0≤rcI r o
  ·obtain ⟨i,hi,hi3⟩:∃i:Nat,rcI r o=i∧i≤3:=by
    refine ⟨(rcI r o).toNat,by omega,?_⟩
    unfold rcI;split
    ·omega
    ·split
     ·omega
     ·split<;>omega
   have hrn:rcN r o=i:=by
    rw [←hi];unfold rcI rcN at*
    split
    ·rfl
    ·split
     ·rfl
     ·split
      ·rfl
      ·rename_i x1 x2 x3;rw [if_neg x1,if_neg x2,if_neg x3] at h2;omega
   have hrb:rcB r o=if i=0 then ⟨o,r.b,r.c⟩ else if i=1 then ⟨o,r.a,r.c⟩ else ⟨o,r.a,r.b⟩:=by
    rw [znc]
    unfold rcI at hi
    by_cases x1:r.a=o
    ·rw [if_pos x1] at hi⊢;rw [if_pos (by omega)]
    ·rw [if_neg x1] at hi⊢
     by_cases x2:r.b=o
     ·rw [if_pos x2] at hi⊢;rw [if_neg (by omega),if_pos (by omega)]
     ·rw [if_neg x2] at hi⊢
      by_cases x3:r.c=o
      ·rw [if_pos x3] at hi;rw [if_neg (by omega),if_neg (by omega)]
      ·rw [if_neg x3] at hi;omega
   rw [hi]
   simp [zaM,a20,rd,hAl,hAt]
   have hf:=zku (H:=H4) r o i hi3
   rw [hrv] at hf
   refine hf.mono ?_
   rintro v H5 ⟨hk5,rfl⟩
   rw [←hrb]
   obtain ⟨p1,p2⟩:=put1 H5 (rcB r o) hk5
   have hg:=get1 H5 hk5
   simp [rcv,zaW,hg,hZl,hZd,wr,rt3]
   simp [zaM,p1,rd,rt3,tup]
   exact ⟨p2,hrn.symm⟩
  ·have x1:¬r.a=o∧¬r.b=o∧¬r.c=o:=by
    unfold rcI at h2
    refine ⟨fun e=>h2 (by rw [if_pos e];omega),fun e=>h2 ?_,fun e=>h2 ?_⟩
    ·split
     ·omega
     ·omega
    ·split
     ·omega
     ·split<;>omega
   have hrn:rcN r o=o+2:=by unfold rcN;rw [if_neg x1.1,if_neg x1.2.1,if_neg x1.2.2]
   have hrb:rcB r o=⟨o,r.a,r.b⟩:=by rw [znc,if_neg x1.1,if_neg x1.2.1]
   have hri:rcI r o=-1:=by unfold rcI;rw [if_neg x1.1,if_neg x1.2.1,if_neg x1.2.2]
   have w1:IntKind.i64.wrap (o+3)=o+3:=wi (by omega) (by omega)
   have w2:IntKind.i64.wrap (o+3 - 1)=o+2:=by rw [wi (by omega) (by omega)];omega
   rw [hri]
   simp [zaM,a20,rd,hAl,hAt,w1,w2]
   have hf:=zku (H:=H4) r o 3 (by omega)
   rw [hrv] at hf
   refine hf.mono ?_
   rintro v H5 ⟨hk5,rfl⟩
   rw [if_neg (by omega),if_neg (by omega),←hrb]
   obtain ⟨p1,p2⟩:=put1 H5 (rcB r o) hk5
   have hg:=get1 H5 hk5
   simp [rcv,zaW,hg,hZl,hZd,wr,rt3]
   simp [zaM,p1,rd,rt3,tup]
   exact ⟨p2,hrn.symm⟩
 ·rw [decide_eq_false h1] at hv
  subst hv
  rw [if_neg h1]
  have hg:=get1 H3 (Kp.refl _ _)
  obtain ⟨p1,p2⟩:=put1 H3 r (Kp.refl _ _)
  rw [←hA] at p1 p2
  simp [zaM,a20,rd,hAl,hAt,zaW,hg,hZl,hZd,wr]
  simp [zaM,p1,rd,hAl,hAt,tup]
  exact p2
theorem zne (r:Rct) (n:Nat) (hn:n≤65535) (hr:(-4611686018427387904≤r.a∧r.a≤4611686018427387904)∧(-4611686018427387904≤r.b∧r.b≤4611686018427387904)∧(-4611686018427387904≤r.c∧r.c≤4611686018427387904)):
  Wf S 205 [rcv r,.int .i64 n] H fun v H'=>Kp H.next H H'∧v=match rcO r n with
   |some o=> .tuple #[.int .i64 o,rcv (rcB r o),.bool true]
   |none=> .tuple #[.int .i64 0,rcv r,.bool false]:=by
 refine w205 rfl rfl _ _ ?_
 obtain ⟨A,hA⟩:∃A:List Value,A=rcl r:=⟨_,rfl⟩
 obtain ⟨Z,hZ⟩:∃Z:List Value,Z= [.int .i64 0,.int .i64 0,.int .i64 0]:=⟨_,rfl⟩
 have hAl:A.length=3:=by rw [hA];rfl
 have hZl:Z.length=3:=by rw [hZ];rfl
 have hAt:A.take 3=A:=List.take_of_length_le (by omega)
 have hZd:Z.drop 3= []:=List.drop_eq_nil_of_le (by omega)
 obtain ⟨N,hN⟩:∃N,N=H.next:=⟨_,rfl⟩
 obtain ⟨H2,hH2⟩:∃H2,H2=(H.push (.cells A 3 true)).push (.cells Z 3 true):=⟨_,rfl⟩
 have n2:H2.next=N+2:=by rw [hH2,hN];simp
 have a20:H2.get N= .cells A 3 true:=by rw [hH2,hN,zae (by simp)];exact zaf
 have a21:H2.get (N+1)= .cells Z 3 true:=by rw [hH2,hN,show H.next+1=(H.push (.cells A 3 true)).next by simp];exact zaf
 have k2:Kp H.next H H2:=by rw [hH2];exact (Kp.push (Nat.le_refl _)).trans (Kp.push (by simp))
 have hrv:rcv r= .agg A.toArray:=by rw [hA];rfl
 have put1:∀(H3:Heap) (r':Rct),Kp H2.next H2 H3→(H3.put (N+1) (.cells (rcl r') 3 true)).get (N+1)= .cells (rcl r') 3 true∧Kp N H (H3.put (N+1) (.cells (rcl r') 3 true)):=fun H3 r' hk=>by
  refine ⟨zad (by have:=hk.1;omega),⟨by rw [next_put];have:=hk.1;omega,fun k hk1=>?_⟩⟩
  rw [zaa (by omega),hk.2 k (by omega)]
  exact k2.2 k (by omega)
 have get1:∀(H3:Heap),Kp H2.next H2 H3→H3.get (N+1)= .cells Z 3 true:=fun H3 hk=>(hk.2 _ (by omega)).trans a21
 have get0:∀(H3:Heap),Kp H2.next H2 H3→H3.get N= .cells A 3 true:=fun H3 hk=>(hk.2 _ (by omega)).trans a20
 have rt3:∀r':Rct,(rcl r').length=3∧(rcl r').take 3=rcl r':=fun r'=>⟨rfl,rfl⟩
 have h0:¬(n:Int)< 0:=by omega
 have h1:¬(65535:Int)< n:=by omega
 have h1':¬65535< n:=by omega
 have w1:IntKind.i64.wrap ((n:Int) - 3)=(n:Int) - 3:=wi (by omega) (by omega)
 have w2:IntKind.i64.wrap ((n:Int) - 3+1)=(n:Int) - 2:=by rw [wi (by omega) (by omega)];omega
 have hx:rcX r n=if n=0 then r.a else if n=1 then r.b else if n=2 then r.c else (n:Int) - 2:=by
  unfold rcX
  by_cases e0:n=0
  ·subst e0;rfl
  ·by_cases e1:n=1
   ·subst e1;rfl
   ·by_cases e2:n=2
    ·subst e2;rfl
    ·rw [if_neg (by omega),if_neg (by omega),if_neg (by omega),if_neg e0,if_neg e1,if_neg e2]
 obtain ⟨X,hX⟩:∃X,X=rcX r n:=⟨_,rfl⟩
 have hXb:-4611686018427387904≤X∧X≤4611686018427387904:=by
  rw [hX,hx];split
  ·exact hr.1
  ·split
   ·exact hr.2.1
   ·split
    ·exact hr.2.2
    ·omega
 have hO:rcO r n=if 1≤X∧X≤65533∧rcN r X=n then some X else none:=by unfold rcO;rw [hX]
 have hNum:=fun {HX:Heap}=>znd (H:=HX) r X hXb.2 hXb.1
 rw [hrv] at hNum⊢
 have hrv2:rcv r= .agg A.toArray:=by rw [hA];rfl
 by_cases h3:n< 3
 ·have h3':(n:Int)< 3:=by omega
  have hAn:A[n]? =some (.int .i64 X):=by
   rw [hA,hX,hx]
   match n,h3 with
   |0,_=>rfl
   |1,_=>rfl
   |2,_=>rfl
  simp [s205,zaw,cellsL,←hZ,←hN,←hH2,h0,h1,h1',h3,h3',w1,w2,zac,a20,hAn]
  simp [zaM,a20,rd,hAl,hAt]
  refine hNum.mono ?_
  rintro v H3 ⟨hk3,rfl⟩
  have hg3:=get1 H3 hk3
  have hg0:=get0 H3 hk3
  have hnl:(H3.push (.cells Z 3 true)).get H3.next= .cells Z 3 true:=zaf
  obtain ⟨H4,hH4⟩:∃H4,H4=H3.push (.cells Z 3 true):=⟨_,rfl⟩
  rw [←hH4] at hnl
  have hl4:H3.next< H4.next:=by rw [hH4];simp
  have put5:∀r':Rct,(H4.put H3.next (.cells (rcl r') 3 true)).get H3.next= .cells (rcl r') 3 true∧Kp H2.next H2 (H4.put H3.next (.cells (rcl r') 3 true)):=fun r'=>by
   refine ⟨zad hl4,⟨by rw [next_put];have:=hk3.1;omega,fun k hk=>?_⟩⟩
   rw [zaa (by have:=hk3.1;omega),hH4,zae (by have:=hk3.1;omega)]
   exact hk3.2 k hk
  by_cases h6:1≤X∧X≤65533
  ·rw [if_pos h6]
   obtain ⟨q1,q2⟩:=put5 (rcB r X)
   have g51:=get1 _ q2
   have g50:=get0 _ q2
   obtain ⟨z1,z2⟩:=put1 _ (rcB r X) q2
   obtain ⟨y1,y2⟩:=put1 _ r q2
   rw [←hA] at y1 y2
   obtain ⟨H5,hH5⟩:∃H5,H5=H4.put H3.next (.cells (rcl (rcB r X)) 3 true):=⟨_,rfl⟩
   rw [←hH5] at q1 q2 g51 g50 z1 z2 y1 y2
   simp
   rw [←hH4]
   simp [rcv,zaW,hnl,hZl,hZd,wr,rt3]
   rw [←hH5]
   by_cases h7:rcN r X=n
   ·have hO2:rcO r n=some X:=by rw [hO,if_pos ⟨h6.1,h6.2,h7⟩]
    rw [hO2]
    simp [h7,zaM,q1,rd,rt3,g51,hZl,hZd,z1,tup]
    exact z2
   ·have hO2:rcO r n=none:=by rw [hO,if_neg (fun h=>h7 h.2.2)]
    rw [hO2]
    simp [h7,zaM,g50,rd,hAl,hAt,g51,hZl,hZd,y1,tup,hrv2]
    exact y2
  ·rw [if_neg h6]
   obtain ⟨q1,q2⟩:=put5 r
   have g51:=get1 _ q2
   have g50:=get0 _ q2
   obtain ⟨y1,y2⟩:=put1 _ r q2
   rw [←hA] at y1 y2 q1 q2 g51 g50
   obtain ⟨H5,hH5⟩:∃H5,H5=H4.put H3.next (.cells A 3 true):=⟨_,rfl⟩
   rw [←hH5] at q1 q2 g51 g50 y1 y2
   have hO2:rcO r n=none:=by rw [hO,if_neg (fun h=>h6 ⟨h.1,h.2.1⟩)]
   rw [hO2]
   simp
   rw [←hH4]
   simp [zaW,hnl,hAl,hZl,hZd,wr]
   rw [←hH5]
   simp [zaM,g50,rd,hAl,hAt,g51,hZl,hZd,y1,tup,hrv2]
   exact y2
 ·have h3':¬(n:Int)< 3:=by omega
  have hXn:X=(n:Int) - 2:=by rw [hX,hx,if_neg (by omega),if_neg (by omega),if_neg (by omega)]
  simp [s205,zaw,cellsL,←hZ,←hN,←hH2,h0,h1,h1',h3,h3',w1,w2]
  rw [←hXn]
  simp [zaM,a20,rd,hAl,hAt]
  refine hNum.mono ?_
  rintro v H3 ⟨hk3,rfl⟩
  have hg3:=get1 H3 hk3
  have hg0:=get0 H3 hk3
  have hnl:(H3.push (.cells Z 3 true)).get H3.next= .cells Z 3 true:=zaf
  obtain ⟨H4,hH4⟩:∃H4,H4=H3.push (.cells Z 3 true):=⟨_,rfl⟩
  rw [←hH4] at hnl
  have hl4:H3.next< H4.next:=by rw [hH4];simp
  have put5:∀r':Rct,(H4.put H3.next (.cells (rcl r') 3 true)).get H3.next= .cells (rcl r') 3 true∧Kp H2.next H2 (H4.put H3.next (.cells (rcl r') 3 true)):=fun r'=>by
   refine ⟨zad hl4,⟨by rw [next_put];have:=hk3.1;omega,fun k hk=>?_⟩⟩
   rw [zaa (by have:=hk3.1;omega),hH4,zae (by have:=hk3.1;omega)]
   exact hk3.2 k hk
  by_cases h6:1≤X∧X≤65533
  ·rw [if_pos h6]
   obtain ⟨q1,q2⟩:=put5 (rcB r X)
   have g51:=get1 _ q2
   have g50:=get0 _ q2
   obtain ⟨z1,z2⟩:=put1 _ (rcB r X) q2
   obtain ⟨y1,y2⟩:=put1 _ r q2
   rw [←hA] at y1 y2
   obtain ⟨H5,hH5⟩:∃H5,H5=H4.put H3.next (.cells (rcl (rcB r X)) 3 true):=⟨_,rfl⟩
   rw [←hH5] at q1 q2 g51 g50 z1 z2 y1 y2
   simp
   rw [←hH4]
   simp [rcv,zaW,hnl,hZl,hZd,wr,rt3]
   rw [←hH5]
   by_cases h7:rcN r X=n
   ·have hO2:rcO r n=some X:=by rw [hO,if_pos ⟨h6.1,h6.2,h7⟩]
    rw [hO2]
    simp [h7,zaM,q1,rd,rt3,g51,hZl,hZd,z1,tup]
    exact z2
   ·have hO2:rcO r n=none:=by rw [hO,if_neg (fun h=>h7 h.2.2)]
    rw [hO2]
    simp [h7,zaM,g50,rd,hAl,hAt,g51,hZl,hZd,y1,tup,hrv2]
    exact y2
  ·rw [if_neg h6]
   obtain ⟨q1,q2⟩:=put5 r
   have g51:=get1 _ q2
   have g50:=get0 _ q2
   obtain ⟨y1,y2⟩:=put1 _ r q2
   rw [←hA] at y1 y2 q1 q2 g51 g50
   obtain ⟨H5,hH5⟩:∃H5,H5=H4.put H3.next (.cells A 3 true):=⟨_,rfl⟩
   rw [←hH5] at q1 q2 g51 g50 y1 y2
   have hO2:rcO r n=none:=by rw [hO,if_neg (fun h=>h6 ⟨h.1,h.2.1⟩)]
   rw [hO2]
   simp
   rw [←hH4]
   simp [zaW,hnl,hAl,hZl,hZd,wr]
   rw [←hH5]
   simp [zaM,g50,rd,hAl,hAt,g51,hZl,hZd,y1,tup,hrv2]
   exact y2
end
set_option maxHeartbeats 8000000
section
variable {H:Heap} {b:Nat} {sv:Value} {s:Bytes} {a:Nat}
theorem zoN:Wf S 108 [] H fun v H'=>Kp H.next H H'∧v=rcv rc0:=by
 refine w108 rfl rfl ?_
 have hg:(H.push (.cells [.int .i64 0,.int .i64 0,.int .i64 0] 3 true)).get H.next= .cells [.int .i64 0,.int .i64 0,.int .i64 0] 3 true:=zaf
 obtain ⟨H2,hH2⟩:∃H2,H2=H.push (.cells [.int .i64 0,.int .i64 0,.int .i64 0] 3 true):=⟨_,rfl⟩
 have hl:H.next< H2.next:=by rw [hH2];simp
 rw [←hH2] at hg
 have hg2:(H2.put H.next (.cells [.int .i64 1,.int .i64 2,.int .i64 4] 3 true)).get H.next= .cells [.int .i64 1,.int .i64 2,.int .i64 4] 3 true:=zad hl
 simp [s108,←hH2,zaC,zaQ,zaw,cellsL,wr,zaW,hg]
 simp [zaM,hg2,rd,tup,rcv,rcl,rc0]
 refine ⟨by rw [next_put];omega,fun k hk=>?_⟩
 rw [zaa (by omega),hH2,zae hk]
theorem zkv (hg:H.get b=BrB sv a) (hb:By H b sv s) (hs:s.length≤1000000) (ha:a≤8*s.length):Wf S 165 [.pointer (some ⟨b,0,none⟩)] H fun v H'=>v= .bool (decide (ended s a))∧∃a',H'=H.put b (BrB sv a'):=by
 refine w165 rfl rfl _ ?_
 simp [s165]
 refine (zjz hg hb hs ha).mono ?_
 rintro v H1 ⟨rfl,rfl⟩
 obtain ⟨L,hL⟩:∃L,L=8*s.length - a:=⟨_,rfl⟩
 rw [←hL]
 have hm:min (L:Int) 8=((min L 8:Nat):Int):=by omega
 simp [hm]
 refine (ze8 hg hb hs ha (min L 8) (by omega)).mono ?_
 intro v H2 hv
 rw [if_pos (by omega)] at hv
 obtain ⟨rfl,rfl⟩:=hv
 have he:ended s a↔L< 8∧zax s a L=0:=by unfold ended;rw [←hL]
 by_cases h8:L< 8
 ·have h8':(L:Int)< 8:=by omega
  have hmin:min L 8=L:=by omega
  rw [hmin]
  obtain ⟨X,hX⟩:∃X,X=zax s a L:=⟨_,rfl⟩
  rw [←hX] at he⊢
  by_cases hX0:X=0
  ·rw [decide_eq_true (he.2 ⟨h8,hX0⟩)]
   simp [h8,h8',hX0]
   exact ⟨_,rfl⟩
  ·have hX0':¬(X:Int)=0:=by omega
   rw [decide_eq_false (fun h=>hX0 (he.1 h).2)]
   simp [h8,h8',hX0,hX0']
   exact ⟨_,rfl⟩
 ·have h8':¬(L:Int)< 8:=by omega
  rw [decide_eq_false (fun h=>h8 (he.1 h).1)]
  simp [h8,h8']
  exact ⟨_,rfl⟩
theorem znf {c m:Nat} (hc:c≤27) (hm:m< 2 ^ cdN c):cdV c m≤65535:=by
 unfold cdV
 split
 ·omega
 ·rename_i h
  have hn:cdN c=c - 12:=by unfold cdN;rw [if_neg h]
  rw [hn] at hm
  have p:2 ^ (c - 12)≤2 ^ 15:=Nat.pow_le_pow_right (by omega) (by omega)
  have e:(2:Nat) ^ 15=32768:=by decide
  omega
theorem zoO (hg:H.get b=BrB sv a) (hb:By H b sv s) (hs:s.length≤1000000) (ha:a≤8*s.length) (c:Nat) (hc:c≤27):Wf S 204 [.int .u8 c,.pointer (some ⟨b,0,none⟩)] H fun v H'=>match vlD s c a with
  |some x=>v= .tuple #[.int .i64 (x.1:Nat),.bool true]∧H'=H.put b (BrB sv x.2)∧x.2≤8*s.length∧x.1≤65535
  |none=>v= .tuple #[.int .i64 0,.bool false]∧H'=H:=by
 refine w204 rfl rfl _ _ ?_
 have hn15:cdN c≤15:=by unfold cdN;split<;>omega
 simp [s204]
 refine (zkt c (by omega)).mono ?_
 rintro v H1 ⟨rfl,rfl⟩
 rw [if_pos hc]
 simp
 refine (ze8 hg hb hs ha (cdN c) (by omega)).mono ?_
 intro v H2 hv
 by_cases hfit:cdN c≤8*s.length - a
 ·rw [if_pos (by omega)] at hv
  obtain ⟨rfl,rfl⟩:=hv
  have hvl:vlD s c a=some (cdV c (zax s a (cdN c)),a+cdN c):=if_pos hfit
  rw [hvl]
  have hm:=za6 s a (cdN c)
  simp
  refine (zoL c _ hc hm).mono ?_
  rintro v H3 ⟨rfl,rfl⟩
  simp [tup]
  exact ⟨by omega,znf hc hm⟩
 ·rw [if_neg (by omega)] at hv
  obtain ⟨rfl,rfl⟩:=hv
  have hvl:vlD s c a=none:=if_neg hfit
  rw [hvl]
  simp [tup]
def vls (s:Bytes):List Nat→Nat→Option (List Nat×Nat)
 | [],a=>some ([],a)
 |c::t,a=>(vlD s c a).bind fun x=>(vls s t x.2).map fun r=>(x.1::r.1,r.2)
theorem zdD (s:Bytes) (c:Nat):∀(l:List Nat) (a:Nat),vls s (l++ [c]) a=(vls s l a).bind fun r=>(vlD s c r.2).map fun x=>(r.1++ [x.1],x.2)
 | [],a=>by
   simp only [List.nil_append,vls,Option.bind_some]
   cases vlD s c a<;>rfl
 |d::t,a=>by
  simp only [List.cons_append,vls,zdD s c t]
  cases vlD s d a with
  |none=>rfl
  |some x=>
   simp only [Option.bind_some]
   cases vls s t x.2 with
   |none=>rfl
   |some r=>
    simp only [Option.bind_some,Option.map_some]
    cases vlD s c r.2<;>rfl
theorem zhB (s:Bytes) (c1 c2 c3:Nat) (r:Rct) (a:Nat):stD s (c1,c2,c3) r a=(vls s [c1,c2,c3] a).bind fun x=>match x.1 with
  | [l,m,n]=>(rcO r n).map fun o=>(⟨l,m+3,o⟩,rcB r o,x.2)
  |_=>none:=by
 simp only [stD,vls]
 cases vlD s c1 a with
 |none=>rfl
 |some x=>
  simp only [Option.bind_some]
  cases vlD s c2 x.2 with
  |none=>rfl
  |some y=>
   simp only [Option.bind_some]
   cases vlD s c3 y.2 with
   |none=>rfl
   |some z=>
    simp only [Option.bind_some,Option.map_some]
def n3 (l:List Nat):List Value:=zbb (l++List.replicate (3 - l.length) 0)
theorem n3_step {l:List Nat} (h:l.length< 3) (x:Nat):(n3 l).set l.length (.int .i64 (x:Int))=n3 (l++ [x]):=by
 unfold n3
 rw [zeN]
 congr 1
 have e:3 - l.length=(3 - (l++ [x]).length)+1:=by simp;omega
 rw [e,List.replicate_succ,List.set_append_right _ _ (Nat.le_refl _),Nat.sub_self,List.set_cons_zero,List.append_assoc]
 rfl
theorem n3_len {l:List Nat} (h:l.length≤3):(n3 l).length=3:=by unfold n3;rw [zeO];simp;omega
structure StI (H0:Heap) (b:Nat) (sv:Value) (s:Bytes) (a0:Nat) (cs:List Nat) (r:Rct) (d:Nat) (e:Fe) (H:Heap) (xs:List Nat) (a:Nat):Prop where
 hl:xs.length≤3
 hd:d=3 - xs.length
 vl:vls s (cs.take xs.length) a0=some (xs,a)
 xb:∀x∈xs,x≤65535
 ha:a≤8*s.length
 e1:e 1= .pointer (some ⟨b,0,none⟩)
 e3:e 3= .pointer (some ⟨H0.next,0,none⟩)
 e5:e 5= .pointer (some ⟨H0.next+1,0,none⟩)
 e6:e 6= .pointer (some ⟨H0.next+2,0,none⟩)
 e7:e 7= .pointer (some ⟨H0.next+3,0,none⟩)
 e9:e 9= .pointer (some ⟨H0.next+4,0,none⟩)
 e16:e 16= .int .i64 (xs.length:Nat)
 g0:H.get H0.next= .cells (bys cs) 5 true
 g1:H.get (H0.next+1)= .cells (rcl r) 3 true
 g2:H.get (H0.next+2)= .cells [.int .i64 0,.int .i64 0,.int .i64 0] 155 true
 g3:H.get (H0.next+3)= .cells [.int .i64 0,.int .i64 0,.int .i64 0] 3 true
 g4:H.get (H0.next+4)= .cells (n3 xs) 3 true
 gb:H.get b=BrB sv a
 kq:Kq b H0 H
 nx:H.next=H0.next+5
theorem zfs (r:Rct) (H:Heap) (P:Prop):ck (some (Value.agg (rcl r).toArray,H)) (Value.agg (rcl r).toArray) P=P:=by
 show (veq _ _=true∧P)=P
 have:veq (Value.agg (rcl r).toArray) (Value.agg (rcl r).toArray)=true:=by simp [veq,zhP,veq1,rcl]
 rw [this];simp
def sqV (x:Sqt):Value:= .agg #[.int .i64 x.l,.int .i64 x.m,.int .i64 x.o]
def St3 (v:Value):Prop:=∃x y:List Value,x.length=3∧y.length=3∧v= .tuple #[.agg x.toArray,.agg y.toArray,.bool false]
theorem zqT (hg:H.get b=BrB sv a) (hb:By H b sv s) (hs:s.length≤1000000) (ha:a≤8*s.length) (c1 c2 c3:Nat) (hc1:c1≤27) (hc2:c2≤27) (hc3:c3≤27) (r:Rct)
  (hr:(-4611686018427387904≤r.a∧r.a≤4611686018427387904)∧(-4611686018427387904≤r.b∧r.b≤4611686018427387904)∧(-4611686018427387904≤r.c∧r.c≤4611686018427387904)):
  Wf S 164 [.agg #[.int .u8 (c1:Nat),.int .u8 (c2:Nat),.int .u8 (c3:Nat)],.pointer (some ⟨b,0,none⟩),rcv r] H fun v H'=>Kq b H H'∧match stD s (c1,c2,c3) r a with
   |some x=>v= .tuple #[sqV x.1,rcv x.2.1,.bool true]∧H'.get b=BrB sv x.2.2∧x.2.2≤8*s.length
   |none=>St3 v:=by
 refine w164 rfl rfl _ _ _ ?_
 have hblt:=zai hg
 have hAl:(rcl r).length=3:=rfl
 have hrv:rcv r= .agg (rcl r).toArray:=rfl
 have hcs: [Value.int .u8 (c1:Nat),.int .u8 (c2:Nat),.int .u8 (c3:Nat)]=bys [c1,c2,c3]:=rfl
 obtain ⟨N,hN⟩:∃N,N=H.next:=⟨_,rfl⟩
 obtain ⟨cs,hcse⟩:∃cs,cs= [c1,c2,c3]:=⟨_,rfl⟩
 have hcb:∀(i:Nat) c,cs[i]? =some c→c≤27:=by
  intro i c hi
  have:=List.mem_of_getElem? hi
  rw [hcse] at this
  simp at this
  rcases this with rfl|rfl|rfl<;>assumption
 have hcl:cs.length=3:=by rw [hcse];rfl
 rw [hrv]
 simp [s164,zaw,cellsL,hcs,←hcse]
 refine l164_0 S (fun d e H'=>∃xs a',StI H b sv s a cs r d e H' xs a') 3 ⟨[],a,by simp,by simp,rfl,by simp,ha,by simp,by simp,by simp,by simp,by simp,by simp,by simp,?_,?_,?_,?_,?_,?_,?_,by simp⟩ ?_
 ·simp [Heap.get_push]
  try (repeat (first|rw [if_pos (by omega)]|rw [if_neg (by omega)]))
 ·simp [Heap.get_push]
  try (repeat (first|rw [if_pos (by omega)]|rw [if_neg (by omega)]))
 ·simp [Heap.get_push]
  try (repeat (first|rw [if_pos (by omega)]|rw [if_neg (by omega)]))
 ·simp [Heap.get_push]
  try (repeat (first|rw [if_pos (by omega)]|rw [if_neg (by omega)]))
 ·simp [Heap.get_push,n3,zbb]
  try (repeat (first|rw [if_pos (by omega)]|rw [if_neg (by omega)]))
 ·simp [Heap.get_push]
  try (repeat (first|rw [if_pos (by omega)]|rw [if_neg (by omega)]))
  exact hg
 ·refine ⟨by simp;omega,fun k hk _=>?_⟩
  simp [Heap.get_push]
  try (repeat (first|rw [if_pos (by omega)]|rw [if_neg (by omega)]))
 rintro d e H' ⟨xs,a',hI⟩
 obtain ⟨hl,rfl,hvl,hxb,ha',e1,e3,e5,e6,e7,e9,e16,g0,g1,g2,g3,g4,gb,kq,nx⟩:=hI
 by_cases h3:xs.length< 3
 ·obtain ⟨c,hc⟩:∃c,cs[xs.length]? =some c:=⟨_,List.getElem?_eq_getElem (by omega)⟩
  have hc27:=hcb _ _ hc
  have hbc:(bys cs)[xs.length]? =some (.int .u8 (c:Int)):=by simp [bys,hc]
  have htk:cs.take (xs.length+1)=cs.take xs.length++ [c]:=by rw [List.take_add_one,hc];rfl
  have hvs:=zdD s c (cs.take xs.length) a
  rw [←htk,hvl] at hvs
  simp only [Option.bind_some] at hvs
  have h3':(xs.length:Int)< 3:=by omega
  simp [s164_0,e1,e3,e5,e6,e7,e9,e16,h3,h3',zac,g0,hbc]
  refine (zoO gb (hb.kq kq) hs ha' c hc27).mono ?_
  intro v H1 hv
  cases hvd:vlD s c a' with
  |none=>
   rw [hvd] at hv hvs
   obtain ⟨rfl,rfl⟩:=hv
   have hsn:stD s (c1,c2,c3) r a=none:=by
    rw [zhB,←hcse]
    have:∀(l:List Nat) (m:List Nat),vls s l a=none→vls s (l++m) a=none:=by
     intro l m
     induction m generalizing l with
     |nil=>intro h;simpa using h
     |cons y m ih=>
      intro h
      have:=ih (l++ [y]) (by rw [zdD,h];rfl)
      simpa using this
    have h4:=this (cs.take (xs.length+1)) (cs.drop (xs.length+1)) (by rw [hvs];rfl)
    rw [List.take_append_drop] at h4
    rw [h4];rfl
   rw [hsn]
   have hp2:H1.put (H.next+2) (.cells [.int .i64 0,.int .i64 0,.int .i64 0] 155 true)=H1:=zcI g2
   obtain ⟨H2,hH2⟩:∃H2,H2=H1.put (H.next+3) (.cells (rcl r) 3 true):=⟨_,rfl⟩
   have q2:H2.get (H.next+2)= .cells [.int .i64 0,.int .i64 0,.int .i64 0] 155 true:=by rw [hH2,zaa (by omega)];exact g2
   have q3:H2.get (H.next+3)= .cells (rcl r) 3 true:=by rw [hH2];exact zad (by omega)
   have hrt:(rcl r).take 3=rcl r:=rfl
   simp [zaC,zaQ,zaM,g1,rd,hAl,hrt,zaW,g2,wr,hp2,zac,kop,Env.ev,g3,←hH2]
   simp [e6,e7,zaM,q2,q3,rd,hAl,hrt,tup]
   rw [zfs]
   exact ⟨⟨by rw [hH2,next_put];exact kq.1,fun k hk hkb=>by rw [hH2,zaa (by omega)];exact kq.2 k hk hkb⟩,_,_,rfl,rfl,rfl⟩
  |some x=>
   rw [hvd] at hv hvs
   obtain ⟨rfl,rfl,hx1,hx2⟩:=hv
   have hn3:(n3 xs).length=3:=n3_len hl
   have hset:=n3_step h3 x.1
   have k4:(H'.put b (BrB sv x.2)).get (H.next+4)= .cells (n3 xs) 3 true:=by rw [zaa (by omega)];exact g4
   have w1:IntKind.i64.wrap ((xs.length:Int)+1)=(xs.length:Int)+1:=wi (by omega) (by omega)
   obtain ⟨X,hX⟩:∃X,X=x.1:=⟨_,rfl⟩
   rw [←hX] at hset⊢
   simp [e9,e16,zac,h3,h3',kSt,k4,hn3,zaB,hset,w1]
   refine ⟨3 - (xs.length+1),by omega,xs++ [X],x.2,by simp;omega,by simp,?_,?_,hx1,by simp [e1],by simp [e3],by simp [e5],by simp [e6],by simp [e7],by simp [e9],by simp,?_,?_,?_,?_,?_,?_,?_,?_⟩
   ·rw [List.length_append]
    simp only [List.length_cons,List.length_nil]
    rw [hvs,hX];rfl
   ·intro y hy
    rcases List.mem_append.1 hy with h|h
    ·exact hxb y h
    ·simp at h;rw [h,hX];exact hx2
   ·rw [zaa (by omega),zaa (by omega)];exact g0
   ·rw [zaa (by omega),zaa (by omega)];exact g1
   ·rw [zaa (by omega),zaa (by omega)];exact g2
   ·rw [zaa (by omega),zaa (by omega)];exact g3
   ·exact zad (by rw [next_put];omega)
   ·rw [zaa (by omega)];exact zad (by omega)
   ·exact ⟨by rw [next_put,next_put];exact kq.1,fun k hk hkb=>by rw [zaa (by omega),zaa hkb];exact kq.2 k hk hkb⟩
   ·rw [next_put,next_put];exact nx
 ·have h5:xs.length=3:=by omega
  obtain ⟨l,m,n,rfl⟩:∃l m n,xs= [l,m,n]:=by
   match xs,h5 with
   | [l,m,n],_=>exact ⟨l,m,n,rfl⟩
  have hl1:=hxb l (by simp)
  have hm1:=hxb m (by simp)
  have hn1:=hxb n (by simp)
  have hvl2:vls s cs a=some ([l,m,n],a'):=by
   rw [show cs.take [l,m,n].length=cs from List.take_of_length_le (by rw [hcl];simp)] at hvl;exact hvl
  have hst:stD s (c1,c2,c3) r a=(rcO r n).map fun o=>(⟨l,m+3,o⟩,rcB r o,a'):=by
   rw [zhB,←hcse,hvl2];rfl
  have g4':H'.get (H.next+4)= .cells [.int .i64 (l:Nat),.int .i64 (m:Nat),.int .i64 (n:Nat)] 3 true:=g4
  have hrt:(rcl r).take 3=rcl r:=rfl
  have wm:IntKind.i64.wrap ((m:Int)+3)=(m:Int)+3:=wi (by omega) (by omega)
  simp [s164_0,e5,e6,e7,e9,e16,zac,zaM,g1,rd,hAl,hrt,g4']
  have hO:=zne (H:=H') r n (by omega) hr
  rw [hrv] at hO
  refine hO.mono ?_
  rintro v H1 ⟨hk1,rfl⟩
  have gg:∀k,k< H.next+5→H1.get k=H'.get k:=fun k hk=>hk1.2 k (by omega)
  rw [hst]
  obtain ⟨Z,hZ⟩:∃Z:List Value,Z= [.int .i64 0,.int .i64 0,.int .i64 0]:=⟨_,rfl⟩
  have hZl:Z.length=3:=by rw [hZ];rfl
  have hZd:Z.drop 3= []:=List.drop_eq_nil_of_le (by omega)
  have hnl:(H1.push (.cells Z 3 true)).get H1.next= .cells Z 3 true:=zaf
  obtain ⟨H2,hH2⟩:∃H2,H2=H1.push (.cells Z 3 true):=⟨_,rfl⟩
  rw [←hH2] at hnl
  have hl2:H1.next< H2.next:=by rw [hH2];simp
  have hn1':=hk1.1
  have fin:∀(rr:Rct) (q:List Value),q.length=3→∀(H3 H4 H5:Heap),H3=H2.put H1.next (.cells (rcl rr) 3 true)→H4=H3.put (H.next+2) (.cells q 155 true)→H5=H4.put (H.next+3) (.cells (rcl rr) 3 true)→
    H3.get H1.next= .cells (rcl rr) 3 true∧H3.get (H.next+4)= .cells [.int .i64 (l:Nat),.int .i64 (m:Nat),.int .i64 (n:Nat)] 3 true∧H3.get (H.next+2)= .cells [.int .i64 0,.int .i64 0,.int .i64 0] 155 true∧H4.get H1.next= .cells (rcl rr) 3 true∧H4.get (H.next+3)= .cells [.int .i64 0,.int .i64 0,.int .i64 0] 3 true∧H5.get (H.next+2)= .cells q 155 true∧H5.get (H.next+3)= .cells (rcl rr) 3 true∧H5.get b=BrB sv a'∧Kq b H H5:=by
   rintro rr q hq H3 H4 H5 rfl rfl rfl
   have hne:H1.next≠H.next+2∧H1.next≠H.next+3∧H1.next≠H.next+4∧H1.next≠b:=by omega
   have old:∀k,k< H.next+5→H2.get k=H'.get k:=fun k hk=>by rw [hH2,zae (by omega)];exact gg k hk
   refine ⟨zad hl2,?_,?_,?_,?_,?_,?_,?_,?_⟩
   ·rw [zaa (by omega),old _ (by omega)];exact g4'
   ·rw [zaa (by omega),old _ (by omega)];exact g2
   ·rw [zaa hne.1];exact zad hl2
   ·rw [zaa (by omega),zaa (by omega),old _ (by omega)];exact g3
   ·rw [zaa (by omega)];exact zad (by rw [next_put];omega)
   ·exact zad (by rw [next_put,next_put];omega)
   ·rw [zaa (by omega),zaa (by omega),zaa (by omega),old _ (by omega)];exact gb
   ·refine ⟨by rw [next_put,next_put,next_put];omega,fun k hk hkb=>?_⟩
    rw [zaa (by omega),zaa (by omega),zaa (by omega),old _ (by omega)]
    exact kq.2 k hk hkb
  have hfill:∀z:Int,zaC Z (zaQ [] [(0,1,.c (.int .i64 (l:Nat))),(1,1,.c (.int .i64 ((m:Int)+3))),(2,1,.c (.int .i64 z))])=some [.int .i64 (l:Nat),.int .i64 ((m:Int)+3),.int .i64 z]:=by
   intro z
   rw [hZ]
   simp [zaC,zaQ,zaw,cellsL,wr,Env.ev]
  cases ho:rcO r n with
  |none=>
   obtain ⟨q,hq⟩:∃q:List Value,q= [.int .i64 (l:Nat),.int .i64 ((m:Int)+3),.int .i64 0]:=⟨_,rfl⟩
   obtain ⟨H3,hH3⟩:∃H3,H3=H2.put H1.next (.cells (rcl r) 3 true):=⟨_,rfl⟩
   obtain ⟨H4,hH4⟩:∃H4,H4=H3.put (H.next+2) (.cells q 155 true):=⟨_,rfl⟩
   obtain ⟨H5,hH5⟩:∃H5,H5=H4.put (H.next+3) (.cells (rcl r) 3 true):=⟨_,rfl⟩
   obtain ⟨f1,f2,f3,f4,f5,f6,f7,f8,f9⟩:=fin r q (by rw [hq];rfl) _ _ _ hH3 hH4 hH5
   have hfl:=hfill 0
   rw [←hq] at hfl
   have hql:q.length=3:=by rw [hq];rfl
   have hqt:q.take 3=q:=List.take_of_length_le (by omega)
   have hr3:(rcl (r)).length=3∧(rcl (r)).take 3=rcl (r):=⟨rfl,rfl⟩
   simp
   rw [←hZ,←hH2]
   simp [zaW,hnl,hZl,hZd,wr,hAl,hrt,←hH3,f2,wm,hfl,f1,hr3,f3,hql,hqt,←hH4]
   simp [kop,Env.ev,zaM,f4,rd,hAl,hrt]
   rw [zfs]
   simp [f5,hAl,hrt,←hH5]
   simp [f6,f7,hql,hqt,hAl,hrt,tup]
   exact ⟨f9,_,_,hql,rfl,rfl⟩
  |some o=>
   obtain ⟨q,hq⟩:∃q:List Value,q= [.int .i64 (l:Nat),.int .i64 ((m:Int)+3),.int .i64 o]:=⟨_,rfl⟩
   obtain ⟨H3,hH3⟩:∃H3,H3=H2.put H1.next (.cells (rcl (rcB r o)) 3 true):=⟨_,rfl⟩
   obtain ⟨H4,hH4⟩:∃H4,H4=H3.put (H.next+2) (.cells q 155 true):=⟨_,rfl⟩
   obtain ⟨H5,hH5⟩:∃H5,H5=H4.put (H.next+3) (.cells (rcl (rcB r o)) 3 true):=⟨_,rfl⟩
   obtain ⟨f1,f2,f3,f4,f5,f6,f7,f8,f9⟩:=fin (rcB r o) q (by rw [hq];rfl) _ _ _ hH3 hH4 hH5
   have hfl:=hfill o
   rw [←hq] at hfl
   have hql:q.length=3:=by rw [hq];rfl
   have hqt:q.take 3=q:=List.take_of_length_le (by omega)
   have hr3:(rcl (rcB r o)).length=3∧(rcl (rcB r o)).take 3=rcl (rcB r o):=⟨rfl,rfl⟩
   have hrvB:rcv (rcB r o)= .agg (rcl (rcB r o)).toArray:=rfl
   simp only [hrvB]
   simp
   rw [←hZ,←hH2]
   simp [zaW,hnl,hZl,hZd,wr,hr3,←hH3,f2,wm,hfl,f1,f3,hql,hqt,←hH4]
   simp [kop,Env.ev,zaM,f4,rd,hr3]
   rw [zfs]
   simp [f5,hr3,←hH5]
   simp [f6,f7,hql,hqt,hr3,tup]
   refine ⟨f9,?_,f8,ha'⟩
   rw [hq];exact ⟨rfl,rfl⟩
end
set_option maxHeartbeats 2000000
section
variable {H:Heap} {a:Option Addr} {c:Nat} {l:List Int}
theorem zkw (hl:Iv H a l) (hm:(l.length:Int)≤9223372036854775807):Wf S 194 [.slice a l.length c] H fun v H'=>H'=H∧v= .bool (zaK l):=by
 refine w194 rfl rfl _ ?_
 simp [s194]
 refine (zoz hl hm).mono ?_
 rintro v H1 ⟨rfl,rfl⟩
 by_cases hr:zaS l=true
 ·have hlen:=za8 hr
  have hall:=zaY hr
  simp [hr]
  refine l194_0 S (fun d e H'=>∃i:Nat,i≤l.length∧d=l.length - i∧H'=H1∧e 3= .int .i64 (2048 - sumTo (taken l) i)∧e 4= .int .i64 (zbI l i)∧e 5= .bool (zfq l i)∧e 11= .slice a l.length c∧e 12= .int .i64 l.length∧e 13= .int .i64 i) l.length ⟨0,by omega,by omega,rfl,by simp [sumTo],by simp [zbI],by simp [zfq],by simp,by simp,by simp⟩ ?_
  rintro d e H' ⟨i,hi,rfl,rfl,e3,e4,e5,e11,e12,e13⟩
  by_cases h3:i< l.length
  ·obtain ⟨b,o,cs,rw,rfl,hg,hc⟩:=hl (by omega)
   obtain ⟨x,hx⟩:∃x,l[i]? =some x:=⟨_,List.getElem?_eq_getElem h3⟩
   have hcx:=hc i x hx
   have hax:=at0_of hx
   have hxb:=hall i
   rw [hax] at hxb
   have hw:IntKind.i64.wrap ((i:Int)+1)=(i:Int)+1:=wi (by omega) (by omega)
   have htb:=zjs (l:=l) i fun k _=>(hall k).2
   have hcb:=zfJ l i
   by_cases g1:0< x
   ·have hpl:part x≤1024:=zeD (by omega)
    have hpp:=zbd x
    have hw2:IntKind.i64.wrap (11 - x)=11 - x:=wi (by omega) (by omega)
    have hw3:IntKind.i64.wrap (zbI l i+1)=zbI l i+1:=wi (by omega) (by omega)
    have hw4:IntKind.i64.wrap (2048 - sumTo (taken l) i - part x)=2048 - sumTo (taken l) i - part x:=wi (by omega) (by omega)
    have hsh:=zmZ hxb.1 hxb.2
    have hn:¬(11 - x< 0):=by omega
    have hn2:¬11< x:=by omega
    simp only [Int.one_mul] at hsh
    simp [s194_0,e3,e4,e5,e11,e12,e13,h3,zac,hg,hcx,g1,hw,hw2,hw3,zch,hn,hn2,hsh,hw4]
    refine ⟨l.length - (i+1),by omega,i+1,by omega,rfl,?_,?_,?_,by simp⟩
    ·simp only [sumTo,taken,hax,g1,if_true];omega
    ·simp [zbI,hax,g1]
    ·simp [zfq,hax,g1]
   ·simp [s194_0,e3,e4,e5,e11,e12,e13,h3,zac,hg,hcx,g1,hw]
    refine ⟨l.length - (i+1),by omega,i+1,by omega,rfl,?_,?_,?_,by simp⟩
    ·simp [sumTo,taken,hax,g1]
    ·simp [zbI,hax,g1]
    ·simp [zfq,hax,g1]
  ·have h5:i=l.length:=by omega
   subst h5
   have hwp:=zjt hr
   have hw:zaK l=(decide (total l=2048)||(decide (zbI l l.length=1) && decide (total l=1024))):=by simp only [zaK,hr,Bool.true_and]
   rw [←hwp] at hw
   have ht:sumTo (taken l) l.length=total l:=rfl
   by_cases q1:2048 - total l=0
   ·simp [s194_0,e3,e4,e5,e12,e13,ht,q1,hw]
   ·by_cases q2:zbI l l.length=1
    ·simp [s194_0,e3,e4,e5,e12,e13,ht,q1,q2,hw]
    ·simp [s194_0,e3,e4,e5,e12,e13,ht,q1,q2,hw]
 ·have:zaK l=false:=by simp [zaK,hr]
  simp [hr,this]
theorem zng (hl:Iv H a l) (hm:(l.length:Int)≤9223372036854775807):Wf S 168 [.slice a l.length c] H fun v H'=>H'=H∧v= .bool (zaK l):=by
 refine w168 rfl rfl _ ?_
 simp [s168]
 refine (zmY hl hm).mono ?_
 rintro v H1 ⟨rfl,rfl⟩
 by_cases hr:zaS l=true
 ·have hlen:=za8 hr
  have hall:=zaY hr
  simp [hr]
  refine l168_0 S (fun d e H'=>∃i:Nat,i≤l.length∧d=l.length - i∧H'=H1∧e 0= .slice a l.length c∧e 3= .int .i64 (sumTo (taken l) i)∧e 4= .int .i64 (zbI l i)∧e 5= .int .i64 i) l.length ⟨0,by omega,by omega,rfl,by simp,by simp [sumTo],by simp [zbI],by simp⟩ ?_
  rintro d e H' ⟨i,hi,rfl,rfl,e0,e3,e4,e5⟩
  by_cases h3:i< l.length
  ·obtain ⟨b,o,cs,rw,rfl,hg,hc⟩:=hl (by omega)
   obtain ⟨x,hx⟩:∃x,l[i]? =some x:=⟨_,List.getElem?_eq_getElem h3⟩
   have hcx:=hc i x hx
   have hax:=at0_of hx
   have hxb:=hall i
   rw [hax] at hxb
   have hw:IntKind.i64.wrap ((i:Int)+1)=(i:Int)+1:=wi (by omega) (by omega)
   have htb:=zjs (l:=l) i fun k _=>(hall k).2
   have hcb:=zfJ l i
   by_cases g1:0< x
   ·have hpl:part x≤1024:=zeD (by omega)
    have hpp:=zbd x
    have hw2:IntKind.i64.wrap (11 - x)=((11 - x).toNat:Int):=by rw [wi (by omega) (by omega)];omega
    have hw3:IntKind.i64.wrap (zbI l i+1)=zbI l i+1:=wi (by omega) (by omega)
    have hw4:IntKind.i64.wrap (sumTo (taken l) i+part x)=sumTo (taken l) i+part x:=wi (by omega) (by omega)
    simp only [s168_0,e0,e3,e4,e5]
    simp [h3,zac,hg,hcx,g1,e0,e3,e4,e5]
    rw [hw2]
    refine (zcw H' (11 - x).toNat (by omega)).mono ?_
    rintro v H2 ⟨rfl,rfl⟩
    have hpe:p2 (11 - x).toNat=part x:=rfl
    simp [e3,e4,e5,hpe,hw,hw3,hw4]
    refine ⟨l.length - (i+1),by omega,i+1,by omega,rfl,?_,?_,by simp⟩
    ·simp [sumTo,taken,hax,g1]
    ·simp [zbI,hax,g1]
   ·simp [s168_0,e0,e3,e4,e5,h3,zac,hg,hcx,g1,hw]
    refine ⟨l.length - (i+1),by omega,i+1,by omega,rfl,?_,?_,by simp⟩
    ·simp [sumTo,taken,hax,g1]
    ·simp [zbI,hax,g1]
  ·have h5:i=l.length:=by omega
   subst h5
   have hw:zaK l=(decide (total l=2048)||(decide (zbI l l.length=1) && decide (total l=1024))):=by simp only [zaK,hr,Bool.true_and]
   have ht:sumTo (taken l) l.length=total l:=rfl
   by_cases q1:total l=2048
   ·simp [s168_0,e0,e3,e4,e5,ht,q1,hw]
   ·by_cases q2:zbI l l.length=1
    ·simp [s168_0,e0,e3,e4,e5,ht,q1,q2,hw]
    ·simp [s168_0,e0,e3,e4,e5,ht,q1,q2,hw]
 ·have:zaK l=false:=by simp [zaK,hr]
  simp [hr,this]
end
theorem zkx {p q:Prop} [Decidable p] [Decidable q] {x y:Int} (h1:p→q) (h2:q→p):(if p then x else y)=if q then x else y:=by
 by_cases hp:p
 ·rw [if_pos hp,if_pos (h1 hp)]
 ·rw [if_neg hp,if_neg fun hq=>hp (h2 hq)]
def ints (l:List Int):List Value:=l.map (.int .i64)
def codes (l:List Int):List Int:=(List.range l.length).map (codeOf l)
theorem zeP {l:List Int} (h:∀k,0≤at0 l k∧at0 l k≤11) (hl:l.length≤256) {n s:Nat} (h1:1≤n) (h2:n≤11) (hs:s≤l.length):0≤zay l n s∧zay l n s≤262144:=by
 have he:=zc4 (l:=l) n h1 h2 s hs
 have ha:=zb7 l n s
 have ht:=zfp l n s
 have hb:=zjs (l:=l) l.length fun k _=>(h k).2
 have hp:=zbd (n:Int)
 have ht2:total l=sumTo (taken l) l.length:=rfl
 constructor
 ·rcases Int.lt_or_le (zay l n s) 0 with h3|h3
  ·have:zay l n s*part n< 0:=Int.mul_neg_of_neg_of_pos h3 hp
   omega
  ·exact h3
 ·rcases Int.lt_or_le 262144 (zay l n s) with h3|h3
  ·have h4:zay l n s*1≤zay l n s*part n:=Int.mul_le_mul_of_nonneg_left (by omega) (by omega)
   omega
  ·exact h3
def Own (H:Heap) (b:Nat) (l:List Int):Prop:=H.get b= .cells (ints l) 3 true
section
variable {H:Heap} {a:Option Addr} {c:Nat} {l:List Int}
end
def Is (H:Heap) (v:Value) (l:List Int):Prop:=(v= .slice none 0 0∧l= [])∨∃b o c cs rw,v= .slice (some ⟨b,o,none⟩) l.length c∧(c=zas∨l.length≤c)∧H.get b= .cells cs 3 rw∧∀(i:Nat) x,l[i]? =some x→cs[o+i]? =some (.int .i64 x)
theorem Is.kp {H H':Heap} {v:Value} {l:List Int} (h:Is H v l) (hk:Kp H.next H H'):Is H' v l:=by
 rcases h with h|⟨b,o,c,cs,rw,h1,h2,h3,h4⟩
 ·exact .inl h
 ·exact .inr ⟨b,o,c,cs,rw,h1,h2,(hk.2 b (zai h3)).trans h3,h4⟩
theorem Is.iv {H:Heap} {v:Value} {l:List Int} (h:Is H v l):∃a c,v= .slice a l.length c∧Iv H a l:=by
 rcases h with ⟨rfl,rfl⟩|⟨b,o,c,cs,rw,h1,h2,h3,h4⟩
 ·exact ⟨none,0,rfl,fun h=>by simp at h⟩
 ·exact ⟨_,_,h1,fun _=>⟨b,o,cs,rw,rfl,h3,h4⟩⟩
theorem zeQ {S:Sys} {H:Heap} {K:Kv} {b o n c:Nat} {cs:List Value} {t:TypeId} {rw:Bool} {m:Nat} (hc:c=zas∨n≤c) (hg:H.get b= .cells cs t rw) (hm:m≤n):
  run S (.slc t 1 (.c (.slice (some ⟨b,o,none⟩) n c)) none (some (.c (.int .i64 m)))) [] H K=K (.slice (some ⟨b,o,none⟩) m (if c=zas then zas else c)) H:=by
 show oT ((zej H t 1 (.slice (some ⟨b,o,none⟩) n c) 0 (some (m:Int))).map (·,H)) K=_
 simp only [zej,hg,if_true,Option.getD_some,zac]
 by_cases h:c=zas
 ·subst h
  simp [hm]
 ·have h2:n≤c:=hc.resolve_left h
  have h3:(0:Int)≤m∧(m:Int)≤c:=by omega
  simp [h]
  split
  ·rename_i h0
   simp
  ·rename_i h0;omega
theorem zcN {S:Sys} {H:Heap} {K:Kv} {b o n c:Nat} {cs:List Value} {t:TypeId} {rw:Bool} {m:Nat} (hc:c=zas∨n≤c) (hg:H.get b= .cells cs t rw) (hm:m≤n):
  run S (.slc t 1 (.c (.slice (some ⟨b,o,none⟩) n c)) (some (.c (.int .i64 m))) none) [] H K=K (.slice (some ⟨b,if c≠zas∧m=c then o else o+m,none⟩) (n - m) (if c=zas then zas else c - m)) H:=by
 show oT ((zej H t 1 (.slice (some ⟨b,o,none⟩) n c) (m:Int) none).map (·,H)) K=_
 simp only [zej,hg,if_true,Option.getD_none,zac]
 by_cases h:c=zas
 ·subst h
  have h1:(0:Int)≤m∧(m:Int)≤n∧(n:Int)≤n:=by omega
  rw [if_pos rfl,if_pos h1]
  have h2:((n:Int) - m).toNat=n - m:=by omega
  simp [h2]
 ·have h2:n≤c:=hc.resolve_left h
  have h3:(0:Int)≤m∧(m:Int)≤n∧(n:Int)≤c:=by omega
  rw [if_neg h,if_pos h3]
  have h2:((n:Int) - m).toNat=n - m:=by omega
  by_cases h4:m=c
  ·simp [h,h2,h4]
  ·simp [h,h2,h4]
theorem Is.cut {S:Sys} {H:Heap} {v:Value} {l:List Int} (h:Is H v l) {m:Nat} (hm:m≤l.length):∃v',Is H v' (l.drop m)∧∀K:Kv,run S (.slc 3 1 (.c v) (some (.c (.int .i64 m))) none) [] H K=K v' H:=by
 rcases h with ⟨rfl,rfl⟩|⟨b,o,c,cs,rw,rfl,h2,h3,h4⟩
 ·have:m=0:=by simpa using hm
  subst this
  exact ⟨.slice none 0 0,.inl ⟨rfl,rfl⟩,fun K=>rfl⟩
 ·refine ⟨_,?_,fun K=>zcN h2 h3 hm⟩
  refine .inr ⟨b,_,_,cs,rw,by rw [List.length_drop],?_,h3,fun i x hx=>?_⟩
  ·rw [List.length_drop]
   by_cases hc:c=zas
   ·exact .inl (if_pos hc)
   ·rw [if_neg hc];right
    have:=h2.resolve_left hc
    omega
  ·rw [List.getElem?_drop] at hx
   have hlt:m+i< l.length:=by
    rcases Nat.lt_or_ge (m+i) l.length with h|h
    ·exact h
    ·rw [List.getElem?_eq_none h] at hx;cases hx
   have:=h4 _ x hx
   have e:¬(c≠zas∧m=c):=by
    rintro ⟨q1,q2⟩
    have:=h2.resolve_left q1
    omega
   rw [if_neg e]
   rw [←this];congr 1;omega
theorem Is.cut2 {S:Sys} {H:Heap} {v:Value} {l:List Int} (h:Is H v l) {m:Nat} (hm:m≤l.length):∃v',∀H',Is H' v l→Is H' v' (l.drop m)∧∀K:Kv,run S (.slc 3 1 (.c v) (some (.c (.int .i64 m))) none) [] H' K=K v' H':=by
 obtain ⟨v',h1,h2⟩:=h.cut (S:=S) hm
 refine ⟨v',fun H' h'=>?_⟩
 obtain ⟨v2,q1,q2⟩:=h'.cut (S:=S) hm
 have:v2=v':=by
  rcases h with ⟨rfl,rfl⟩|⟨b,o,c,cs,rw,rfl,r2,r3,r4⟩
  ·have:m=0:=by simpa using hm
   subst this
   have e1:=h2 fun v _=>v=v'
   have e2:=q2 fun v _=>v=v'
   have a1:(run S (.slc 3 1 (.c (.slice none 0 0)) (some (.c (.int .i64 (0:Nat)))) none) [] H fun v _=>v=v')=((Value.slice none 0 0)=v'):=rfl
   have a2:(run S (.slc 3 1 (.c (.slice none 0 0)) (some (.c (.int .i64 (0:Nat)))) none) [] H' fun v _=>v=v')=((Value.slice none 0 0)=v'):=rfl
   rw [a1] at e1
   rw [a2] at e2
   rw [←e2,e1]
  ·rcases h' with ⟨e,_⟩|⟨b',o',c',cs',rw',e,s2,s3,s4⟩
   ·cases e
   ·simp only [Value.slice.injEq] at e
    obtain ⟨e1,_,e2⟩:=e
    cases e1
    subst e2
    have e1:=h2 fun v _=>v=v'
    have e2:=q2 fun v _=>v=v'
    rw [zcN r2 r3 hm] at e1
    rw [zcN s2 s3 hm] at e2
    rw [←e2,e1]
 rw [←this]
 exact ⟨q1,q2⟩
def stp (l:List Int):Nat→Nat
 |0=>0
 |n+1=>if at0 l n=0 then stp l n else n+1
theorem zhC (l:List Int):∀n,stp l n≤n
 |0=>by simp [stp]
 |n+1=>by
  have:=zhC l n
  simp only [stp];split<;>omega
def zaG (l:List Int):Nat:=stp l l.length
def short (l:List Int):List Int:=l.take (zaG l)
theorem zdQ (l:List Int):(short l).length=zaG l:=by
 have:=zhC l l.length
 unfold short zaG;rw [List.length_take];omega
theorem short_at {l:List Int} {i:Nat} (h:i< zaG l):at0 (short l) i=at0 l i:=by
 unfold at0 short
 rw [List.getD_eq_getElem?_getD,List.getD_eq_getElem?_getD,List.getElem?_take,if_pos h]
theorem zgU {l:List Int} {i:Nat} (h:zaG l≤i):at0 (short l) i=0:=by
 unfold at0
 rw [List.getD_eq_getElem?_getD,List.getElem?_eq_none (by rw [zdQ];exact h)];rfl
def u8 (x:Int):UInt8:=UInt8.ofNat x.toNat
def zeR (l:List Int) (j:Nat):UInt8:=u8 (at0 l (2*j)+16*at0 l (2*j+1))
def tabs (l:List Int) (k:Nat):Bytes:=(List.range k).map (zeR l)
theorem zli (l:List Int) (k:Nat):tabs l (k+1)=tabs l k++ [zeR l k]:=by simp [tabs,List.range_succ]
def zdR (l:List Int):Bytes:=u8 ((zaG l:Int) - 1)::tabs (short l) ((zaG l+1) / 2)
section
variable {H:Heap}
theorem zfa (l:List Int):zaG l≤l.length:=zhC _ _
theorem zgV {a:Option Addr} {c:Nat} {l:List Int} (h:Is H (.slice a l.length c) l):∃v',Is H v' (short l)∧∀K:Kv,run S (.slc 3 1 (.c (.slice a l.length c)) none (some (.c (.int .i64 (zaG l))))) [] H K=K v' H:=by
 have hle:=zfa l
 rcases h with ⟨h1,rfl⟩|⟨b,o,c',cs,rw,h1,h2,h3,h4⟩
 ·simp only [Value.slice.injEq] at h1
  obtain ⟨rfl,_,rfl⟩:=h1
  refine ⟨.slice none 0 0,.inl ⟨rfl,rfl⟩,?_⟩
  have:zaG []=0:=rfl
  intro K;rw [this];rfl
 ·simp only [Value.slice.injEq] at h1
  obtain ⟨rfl,_,rfl⟩:=h1
  refine ⟨_,?_,fun K=>zeQ h2 h3 hle⟩
  refine .inr ⟨b,o,if c=zas then zas else c,cs,rw,by rw [zdQ],?_,h3,fun i x hx=>?_⟩
  ·rw [zdQ]
   rcases h2 with h2|h2
   ·left;rw [if_pos h2]
   ·by_cases hc:c=zas
    ·left;rw [if_pos hc]
    ·right;rw [if_neg hc];omega
  ·unfold short at hx
   rw [List.getElem?_take] at hx
   split at hx
   ·exact h4 i x hx
   ·cases hx
end
theorem u8_nat {x:Int} (h0:0≤x) (h1:x< 256):((u8 x).toNat:Int)=x:=by
 unfold u8
 have:(UInt8.ofNat x.toNat).toNat=x.toNat:=by
  rw [UInt8.toNat_ofNat'];omega
 rw [this];omega
theorem wrap8 {x:Int} (h0:0≤x) (h1:x< 256):IntKind.u8.wrap x=x:=by
 simp [IntKind.wrap,IntKind.signed,IntKind.bits];omega
theorem zps {x:Int} (h0:0≤x) (h1:x< 256):Value.int .u8 x=bv (u8 x):=by
 unfold bv;rw [u8_nat h0 h1]
section
variable {H:Heap}
def TI (H0:Heap) (v':Value) (s:List Int) (first:UInt8) (d:Nat) (e3 e4 e5:Value) (H:Heap):Prop:=∃j:Nat,j≤(s.length+1) / 2∧d=(s.length+1) / 2 - j∧Kp H0.next H0 H∧H0.next≤H.next∧e3=v'∧Acc 5 1 H0.next H.next H e4 (j+1) (bvs (first::tabs s j))∧e5= .int .i64 ((2*j:Nat):Int)
end
theorem ziJ {l:List Int}:∀n,stp l n=0→∀k,k< n→at0 l k=0
 |0,_,k,hk=>by omega
 |n+1,h,k,hk=>by
  simp only [stp] at h
  split at h
  ·by_cases e:k=n
   ·subst e;assumption
   ·exact ziJ n h k (by omega)
  ·omega
theorem zgW {l:List Int} (h:zaK l=true):1≤zaG l:=by
 rcases Nat.eq_zero_or_pos (zaG l) with h0|h0
 ·exfalso
  have hz:=ziJ l.length h0
  have ht:total l=0:=by
   unfold total
   have:sumTo (taken l) l.length=sumTo (fun _=>0) l.length:=sumTo_congr _ fun k hk=>by
    unfold taken;rw [hz k hk];simp
   rw [this]
   have hzz:∀n,sumTo (fun _=>0) n=0:=by
    intro n
    induction n with
    |zero=>rfl
    |succ n ih=>simp [sumTo,ih]
   exact hzz _
  simp only [zaK,Bool.and_eq_true,Bool.or_eq_true,decide_eq_true_eq] at h
  omega
 ·exact h0
def zb2 (s:Bytes) (i:Nat):Int:=((s.getD i 0).toNat:Int)
theorem zlj (s:Bytes) (i:Nat):0≤zb2 s i∧zb2 s i< 256:=by
 have:=(s.getD i 0).toNat_lt
 unfold zb2;omega
def nib (s:Bytes) (i:Nat):Int:=if i % 2=1 then zb2 s (1+i / 2) / 16 else zb2 s (1+i / 2) % 16
theorem znh (s:Bytes) (i:Nat):0≤nib s i∧nib s i< 16:=by
 have:=zlj s (1+i / 2)
 unfold nib;split<;>omega
def zaV (s:Bytes) (n:Nat):List Int:=(List.range n).map (nib s)
theorem zba (s:Bytes) (n:Nat):(zaV s n).length=n:=by simp [zaV]
theorem zfb (s:Bytes) (n:Nat):zaV s (n+1)=zaV s n++ [nib s n]:=by simp [zaV,List.range_succ]
theorem zgm {s:Bytes} {n i:Nat} (h:i< n):(zaV s n)[i]? =some (nib s i):=by simp [zaV,h]
def hdN (s:Bytes):Nat:=(s.headD 0).toNat+1
theorem zgn (s:Bytes):1≤hdN s∧hdN s≤256:=by
 have:=(s.headD 0).toNat_lt
 unfold hdN;omega
def atN (s:Bytes):Nat:=1+(hdN s+1) / 2
def rok (s:Bytes):Prop:=s≠ []∧atN s≤s.length∧zaK (zaV s (hdN s))=true∧zdR (zaV s (hdN s))=s.take (atN s)
instance (s:Bytes):Decidable (rok s):=by unfold rok;infer_instance
theorem zqU {N M n:Nat} {H:Heap} {v:Value} {l:List Int} (h:Acc 3 1 N M H v n (ints l)) (hn:l.length=n):Is H v l:=by
 rcases h with ⟨h1,h2,rfl⟩|⟨b,c,h1,h2,rfl,hc,h4,h5⟩
 ·exact .inl ⟨rfl,by cases l with|nil=>rfl|cons x l=>simp [ints] at h2⟩
 ·subst hn
  exact .inr ⟨b,0,c,ints l,true,rfl,by omega,h4,fun i x hx=>by simp [ints,hx]⟩
section
variable {H:Heap}
theorem zcj {s:Bytes} {i:Nat} {b:UInt8} (h:s[i]? =some b):zb2 s i=b.toNat:=by
 unfold zb2;rw [List.getD_eq_getElem?_getD,h];rfl
theorem zfc (b:UInt8):bv b= .int .u8 b.toNat:=rfl
def RR (s:Bytes) (v:Value) (H':Heap):Prop:=if rok s then ∃v',v= .tuple #[v',.int .i64 (atN s)]∧Is H' v' (zaV s (hdN s)) else v= .tuple #[.slice none 0 0,.int .i64 0]
theorem RR.no {s:Bytes} {H':Heap} (h:¬rok s):RR s (.tuple #[.slice none 0 0,.int .i64 0]) H':=by unfold RR;rw [if_neg h]
theorem RR.yes {s:Bytes} {H':Heap} {v':Value} (h:rok s) (hi:Is H' v' (zaV s (hdN s))):RR s (.tuple #[v',.int .i64 (atN s)]) H':=by unfold RR;rw [if_pos h];exact ⟨v',rfl,hi⟩
def RI (H0:Heap) (s:Bytes) (d:Nat) (e0 e4 e5 e6 e7:Value) (H:Heap):Prop:=∃i:Nat,i≤hdN s∧d=hdN s - i∧Kp H0.next H0 H∧H0.next≤H.next∧e0= .string (ofL s)∧e4= .int .i64 (hdN s)∧e5= .int .i64 (atN s)∧Acc 3 1 H0.next H.next H e6 i (ints (zaV s i))∧e7= .int .i64 i
end
def kN (s:Bytes):Nat:=(hdN s+1) / 2
def pok (s:Bytes):Prop:=s≠ []∧atN s≤s.length∧(hdN s< 2*kN s→nib s (hdN s)=0)∧nib s (hdN s - 1)≠0∧zaK (zaV s (hdN s))=true
theorem zni {l:List Int} {n:Nat} (hn:1≤n) (h:stp l n=n):at0 l (n - 1)≠0:=by
 cases n with
 |zero=>omega
 |succ n=>
  simp only [stp] at h
  split at h
  ·have:=zhC l n;omega
  ·assumption
theorem zoP {l:List Int} {n:Nat} (hn:1≤n) (h:at0 l (n - 1)≠0):stp l n=n:=by
 cases n with
 |zero=>omega
 |succ n=>
  simp only [stp]
  rw [if_neg (by simpa using h)]
theorem at0_nibs {s:Bytes} {n i:Nat} (h:i< n):at0 (zaV s n) i=nib s i:=at0_of (zgm h)
theorem at0_nibs_out {s:Bytes} {n i:Nat} (h:n≤i):at0 (zaV s n) i=0:=by
 unfold at0;rw [List.getD_eq_getElem?_getD,List.getElem?_eq_none (by rw [zba];exact h)];rfl
theorem zlk (s:Bytes) (j:Nat):nib s (2*j)+16*nib s (2*j+1)=zb2 s (1+j):=by
 have h1:nib s (2*j)=zb2 s (1+j) % 16:=by unfold nib;rw [if_neg (by omega)];congr 2;omega
 have h2:nib s (2*j+1)=zb2 s (1+j) / 16:=by unfold nib;rw [if_pos (by omega)];congr 2;omega
 rw [h1,h2];omega
theorem u8_byte {s:Bytes} {i:Nat} {b:UInt8} (h:s[i]? =some b):u8 (zb2 s i)=b:=by
 rw [zcj h];unfold u8;simp
theorem zgo {l:List Int} (h:zaG l=l.length):short l=l:=by unfold short;rw [h,List.take_length]
theorem ziK {l:List Int} {k j:Nat} (h:j< k):(tabs l k)[j]? =some (zeR l j):=by simp [tabs,h]
theorem znj (l:List Int) (k:Nat):(tabs l k).length=k:=by simp [tabs]
theorem zdS (s:Bytes):pok s↔rok s:=by
 by_cases hs:s= []
 ·exact ⟨fun h=>absurd hs h.1,fun h=>absurd hs h.1⟩
 by_cases hat0:¬atN s≤s.length
 ·exact ⟨fun h=>absurd h.2.1 hat0,fun h=>absurd h.2.1 hat0⟩
 have hat:atN s≤s.length:=Decidable.not_not.mp hat0
 by_cases hw0:¬zaK (zaV s (hdN s))=true
 ·exact ⟨fun h=>absurd h.2.2.2.2 hw0,fun h=>absurd h.2.2.1 hw0⟩
 have hw:zaK (zaV s (hdN s))=true:=Decidable.not_not.mp hw0
 have hbd:=zgn s
 have hln:=zba s (hdN s)
 have hatN:atN s=1+kN s:=rfl
 have hkN:kN s=(hdN s+1) / 2:=rfl
 obtain ⟨c0,hc0⟩:∃c0,s[0]? =some c0:=by
  cases s with
  |nil=>exact absurd rfl hs
  |cons c s=>exact ⟨c,rfl⟩
 have hc0n:c0.toNat+1=hdN s:=by
  cases s with
  |nil=>simp at hc0
  |cons c s=>simp at hc0;subst hc0;rfl
 have hpos:=zgW hw
 have hsle:=zfa (zaV s (hdN s))
 rw [hln] at hsle
 have key:zaG (zaV s (hdN s))=hdN s→∀j,j< kN s→∀b,s[1+j]? =some b→(zeR (zaV s (hdN s)) j=b↔(2*j+1=hdN s→nib s (hdN s)=0)):=by
  intro hsh j hj b hb
  have hbb:=zlk s j
  have h0:=znh s (2*j)
  have h1:=znh s (2*j+1)
  have ha:at0 (zaV s (hdN s)) (2*j)=nib s (2*j):=at0_nibs (by omega)
  have hu:=u8_byte hb
  by_cases he:2*j+1=hdN s
  ·have ha2:at0 (zaV s (hdN s)) (2*j+1)=0:=at0_nibs_out (by omega)
   unfold zeR
   rw [ha,ha2]
   constructor
   ·intro h _
    rw [←he]
    have e1:((u8 (nib s (2*j)+16*0)).toNat:Int)=nib s (2*j)+16*0:=u8_nat (by omega) (by omega)
    rw [h,←zcj hb] at e1
    omega
   ·intro h
    have h2:=h he
    rw [←he] at h2
    rw [←hu,←hbb,h2]
  ·have ha2:at0 (zaV s (hdN s)) (2*j+1)=nib s (2*j+1):=at0_nibs (by omega)
   unfold zeR
   rw [ha,ha2,hbb,hu]
   exact ⟨fun _ h=>absurd h he,fun _=>rfl⟩
 constructor
 ·rintro ⟨_,_,h1,h2,_⟩
  refine ⟨hs,hat,hw,?_⟩
  have hsh:zaG (zaV s (hdN s))=hdN s:=by
   unfold zaG;rw [hln]
   exact zoP hbd.1 (by rw [at0_nibs (by omega)];exact h2)
  have hsf:short (zaV s (hdN s))=zaV s (hdN s):=zgo (by rw [hsh,hln])
  unfold zdR
  rw [hsh,hsf,←hkN]
  apply List.ext_getElem?
  intro i
  cases i with
  |zero=>
   rw [List.getElem?_take,if_pos (by omega),hc0]
   have:(hdN s:Int) - 1=zb2 s 0:=by rw [zcj hc0];omega
   simp only [List.getElem?_cons_zero]
   rw [this,u8_byte hc0]
  |succ j=>
   rw [List.getElem?_take]
   simp only [List.getElem?_cons_succ]
   by_cases hj:j< kN s
   ·rw [if_pos (by omega),ziK hj]
    obtain ⟨b,hb⟩:∃b,s[1+j]? =some b:=⟨_,List.getElem?_eq_getElem (by omega)⟩
    rw [Nat.add_comm j 1,hb]
    congr 1
    exact (key hsh j hj b hb).mpr fun he=>h1 (by omega)
   ·rw [if_neg (by omega),List.getElem?_eq_none (by rw [znj];omega)]
 ·rintro ⟨_,_,_,ht⟩
  have hh:=congrArg (fun l:Bytes=>l[0]?) ht
  simp only [zdR,List.getElem?_cons_zero] at hh
  rw [List.getElem?_take,if_pos (by omega),hc0] at hh
  have hh':=Option.some.inj hh
  have e1:((u8 ((zaG (zaV s (hdN s)):Int) - 1)).toNat:Int)=(zaG (zaV s (hdN s)):Int) - 1:=u8_nat (by omega) (by omega)
  rw [hh'] at e1
  have hsh:zaG (zaV s (hdN s))=hdN s:=by omega
  have hsf:short (zaV s (hdN s))=zaV s (hdN s):=zgo (by rw [hsh,hln])
  have h2:nib s (hdN s - 1)≠0:=by
   have:=zni (l:=zaV s (hdN s)) hbd.1 (by have:=hsh;unfold zaG at this;rw [hln] at this;exact this)
   rwa [at0_nibs (by omega)] at this
  refine ⟨hs,hat,fun hlt=>?_,h2,hw⟩
  have hj:kN s - 1< kN s:=by omega
  obtain ⟨b,hb⟩:∃b,s[1+(kN s - 1)]? =some b:=⟨_,List.getElem?_eq_getElem (by omega)⟩
  have hj2:=congrArg (fun l:Bytes=>l[1+(kN s - 1)]?) ht
  simp only [zdR] at hj2
  rw [hsh,hsf,Nat.add_comm 1 (kN s - 1),List.getElem?_cons_succ,List.getElem?_take,if_pos (by omega)] at hj2
  have:(tabs (zaV s (hdN s)) ((hdN s+1) / 2))[kN s - 1]? =some (zeR (zaV s (hdN s)) (kN s - 1)):=ziK hj
  rw [this,Nat.add_comm (kN s - 1) 1,hb] at hj2
  exact (key hsh (kN s - 1) hj b hb).mp (Option.some.inj hj2) (by omega)
theorem and15:∀b:Fin 256,(BitVec.ofInt 8 (b.val:Int) &&& BitVec.ofInt 8 15).toNat=b.val % 16:=by decide
theorem znk (b:UInt8):zat .and (.int .u8 b.toNat) (.int .u8 15)=some (.int .u8 ((b.toNat:Int) % 16)):=by
 have hb:=b.toNat_lt
 rw [zqM]
 have h:=and15 ⟨b.toNat,by omega⟩
 simp only at h
 have hbits:IntKind.u8.bits=8:=rfl
 rw [hbits,h,wrap8 (by omega) (by omega)]
 congr 2
theorem zoQ (b:UInt8):zat .shr (.int .u8 b.toNat) (.int .u64 4)=some (.int .u8 ((b.toNat:Int) / 16)):=by
 rw [zcx,if_neg (by omega)]
 have hm:min (4:Int).toNat IntKind.u8.bits=4:=by decide
 rw [hm]
 congr 2
 rw [Int.fdiv_eq_ediv_of_nonneg _ (by omega)];rfl
def lay (s:Bytes) (j:Nat):List Int:=zaV s (2*j)++List.replicate (hdN s+1 - 2*j) 0
theorem zky {s:Bytes} {j:Nat} (h:2*j≤hdN s+1):(lay s j).length=hdN s+1:=by simp [lay,zba];omega
theorem znl {s:Bytes} {j:Nat} (h:2*(j+1)≤hdN s+1):wr (ints (lay s j)) (2*j) [.int .i64 (nib s (2*j)),.int .i64 (nib s (2*j+1))]=ints (lay s (j+1)):=by
 have e1:ints (lay s j)=ints (zaV s (2*j))++List.replicate (hdN s+1 - 2*j) (.int .i64 0):=by simp [lay,ints]
 have e2:ints (lay s (j+1))=ints (zaV s (2*j))++ [.int .i64 (nib s (2*j)),.int .i64 (nib s (2*j+1))]++List.replicate (hdN s+1 - 2*(j+1)) (.int .i64 0):=by
  have:zaV s (2*(j+1))=zaV s (2*j)++ [nib s (2*j),nib s (2*j+1)]:=by
   rw [show 2*(j+1)=2*j+1+1 by omega,zfb,zfb];simp
  simp [lay,ints,this]
 have hl:(ints (zaV s (2*j))).length=2*j:=by simp [ints,zba]
 rw [e1,e2]
 unfold wr
 rw [List.take_append_of_le_length (by omega),List.take_of_length_le (by omega)]
 congr 1
 rw [List.drop_append,List.drop_of_length_le (by rw [hl];simp),List.nil_append,List.drop_replicate]
 congr 1
 simp [hl];omega
theorem zhD {s:Bytes} {j i:Nat} (h:i< 2*j):(lay s j)[i]? =some (nib s i):=by
 unfold lay
 rw [List.getElem?_append_left (by rw [zba];exact h),zgm h]
def body (s:Bytes):Bytes:=(s.drop 1).take (kN s)
def first (s:Bytes):UInt8:=s.headD 0
section
variable {H:Heap}
def PR (s:Bytes) (b:Nat) (H0:Heap) (v:Value) (H':Heap):Prop:=
 H0.next≤H'.next∧(∀k,k< H0.next→k≠b→H'.get k=H0.get k)∧if rok s then ∃v',v= .tuple #[v',.bool true]∧Is H' v' (zaV s (hdN s))∧Rd H' b (s.drop (atN s)) false else v= .tuple #[.slice none 0 0,.bool false]
theorem PR.no {s:Bytes} {b:Nat} {H0 H':Heap} (h:¬rok s) (h1:H0.next≤H'.next) (h2:∀k,k< H0.next→k≠b→H'.get k=H0.get k):PR s b H0 (.tuple #[.slice none 0 0,.bool false]) H':=by
 unfold PR;rw [if_neg h];exact ⟨h1,h2,rfl⟩
theorem PR.yes {s:Bytes} {b:Nat} {H0 H':Heap} {v':Value} (h:rok s) (h1:H0.next≤H'.next) (h2:∀k,k< H0.next→k≠b→H'.get k=H0.get k) (hi:Is H' v' (zaV s (hdN s))) (hr:Rd H' b (s.drop (atN s)) false):PR s b H0 (.tuple #[v',.bool true]) H':=by
 unfold PR;rw [if_pos h];exact ⟨h1,h2,v',rfl,hi,hr⟩
def LI (H0:Heap) (s:Bytes) (N:Nat) (d:Nat) (e4 e6 e24 e25 e26:Value) (H:Heap):Prop:=∃j:Nat,j≤kN s∧d=kN s - j∧N+2≤H.next∧(∀k,k< N→H.get k=H0.get k)∧H.get N= .cells (ints (lay s j)) 3 true∧H.get (N+1)= .cells (bvs (body s)) 5 true∧
 e4= .int .i64 (hdN s)∧e6= .slice (some ⟨N,0,none⟩) (2*j) (hdN s+1)∧e24= .slice (some ⟨N+1,0,none⟩) (kN s) zas∧e25= .int .i64 (kN s)∧e26= .int .i64 j
theorem zqV {b:Nat} {s:Bytes} (h:Rd H b s false) (hs:s.length≤100000):Wf S 198 [.pointer (some ⟨b,0,none⟩)] H fun v H'=>PR s b H v H':=by
 refine w198 rfl rfl _ ?_
 have hlt:=h.lt
 simp [s198]
 refine (zeH h).mono ?_
 rintro v H1 ⟨rfl,hr1,hn1,hold1⟩
 have hbd:=zgn s
 have hkN:kN s=(hdN s+1) / 2:=rfl
 have hatN:atN s=1+kN s:=rfl
 have hhead:(zar s false 1).headD 0=first s:=by
  unfold zar first
  cases s with
  |nil=>simp
  |cons c s=>simp
 have hc0:=(first s).toNat_lt
 have hhd:((first s).toNat:Int)+1=hdN s:=by unfold hdN first;omega
 have hwc:IntKind.i64.wrap ((first s).toNat:Int)=(first s).toNat:=wi (by omega) (by omega)
 have hw1:IntKind.i64.wrap (((first s).toNat:Int)+1)=hdN s:=by rw [wi (by omega) (by omega)];exact hhd
 have hw2:IntKind.i64.wrap ((hdN s:Int)+1)=(hdN s:Int)+1:=wi (by omega) (by omega)
 have hq:((hdN s:Int)+1).tdiv 2=(kN s:Int):=by rw [Int.tdiv_eq_ediv_of_nonneg (by omega)];omega
 have hw3:IntKind.i64.wrap (kN s:Int)=(kN s:Int):=wi (by omega) (by omega)
 rw [hhead]
 simp only [zof,hwc,zkb,zqf,zhj,hw1,hw2,zqg,hq,hw3]
 try simp [hw3]
 refine (zcL hr1 _).mono ?_
 rintro v H2 ⟨rfl,rfl⟩
 have hlt1:b< H1.next:=by omega
 have hr2:=zaZ (H:=H1) (l:=zaE (zaE s false 1) (zav s false 1) (kN s)) (bad:=zav (zaE s false 1) (zav s false 1) (kN s)) hlt1
 have hn2:(H1.put b (RdB (zaE (zaE s false 1) (zav s false 1) (kN s)) (zav (zaE s false 1) (zav s false 1) (kN s)))).next=H1.next:=next_put
 have hold2:∀k,k< H.next→k≠b→(H1.put b (RdB (zaE (zaE s false 1) (zav s false 1) (kN s)) (zav (zaE s false 1) (zav s false 1) (kN s)))).get k=H.get k:=fun k h1 h2=>(zaa h2).trans (hold1 k h1 h2)
 try simp only [Int.toNat_natCast]
 generalize H1.put b (RdB (zaE (zaE s false 1) (zav s false 1) (kN s)) (zav (zaE s false 1) (zav s false 1) (kN s)))=H2 at*
 try simp
 refine (zbc hr2).mono ?_
 rintro v H3 ⟨rfl,rfl⟩
 by_cases hbad:zav (zaE s false 1) (zav s false 1) (kN s)=true
 ·have hno:¬rok s:=by
   rintro ⟨h0,hat,_⟩
   have h1:¬s.length< 1:=by omega
   simp [zav,zaE,h1] at hbad
   omega
  simp [hbad,tup]
  exact PR.no hno (by omega) hold2
 have hbad':zav (zaE s false 1) (zav s false 1) (kN s)=false:=by simpa using hbad
 have hfit:s≠ []∧atN s≤s.length:=by
  have h1:¬s.length< 1:=by
   intro h1
   simp [zav,h1] at hbad'
  simp [zav,zaE,h1] at hbad'
  refine ⟨fun e=>by rw [e] at h1;simp at h1,by omega⟩
 have hrout:zar (zaE s false 1) (zav s false 1) (kN s)=body s:=by
  unfold body
  have h1:¬s.length< 1:=by omega
  have h2:¬s.length - 1< kN s:=by omega
  simp [zar,zaE,zav,h1,h2]
  try omega
 have hrl:zaE (zaE s false 1) (zav s false 1) (kN s)=s.drop (atN s):=by
  have h1:¬s.length< 1:=by omega
  have h2:¬s.length - 1< kN s:=by omega
  simp [zaE,zav,h1,h2,List.drop_drop,hatN]
  try omega
 rw [hbad',hrl] at hr2
 rw [hrout]
 have hlen:(body s).length=kN s:=by unfold body;simp;omega
 have hmks:zcB H3 3 [.int .i64 0] 8 (.int .i64 0) (.int .i64 ((hdN s:Int)+1))=some (.slice (some ⟨H3.next,0,none⟩) 0 (hdN s+1),H3.push (.cells (zeros [.int .i64 0] (hdN s+1)) 3 true)):=by
  have m4:((hdN s:Int)+1).toNat=hdN s+1:=by omega
  simp only [zcB]
  rw [if_pos (by omega),m4];rfl
 simp [hbad',hw2,hmks]
 rw [zb4 (by unfold zag;omega),hlen]
 try simp
 refine l198_0 S (fun d e H'=>LI H3 s H3.next d (e 4) (e 6) (e 24) (e 25) (e 26) H') (kN s) ⟨0,by omega,by omega,by simp,fun k hk=>by simp [hk,show k< H3.next+1 by omega],?_,?_,by simp,by simp,by simp,by simp,by simp⟩ ?_
 ·simp [lay,zaV,ints,zeros]
 ·simp
 rintro d e H4 ⟨j,hj,rfl,hn4,hold4,hN,hB,e4,e6,e24,e25,e26⟩
 by_cases h3:j< kN s
 ·have hjs:1+j< s.length:=by omega
  obtain ⟨c,hc⟩:∃c,s[1+j]? =some c:=⟨_,List.getElem?_eq_getElem hjs⟩
  have hcb:=c.toNat_lt
  have hcg:(bvs (body s))[j]? =some (bv c):=by
   simp only [bvs,body,List.getElem?_map]
   rw [List.getElem?_take,if_pos h3,List.getElem?_drop,hc];rfl
  have hbyte:=zcj hc
  have hx:nib s (2*j)=(c.toNat:Int) % 16:=by unfold nib;rw [if_neg (by omega),show 1+2*j / 2=1+j by omega,hbyte]
  have hy:nib s (2*j+1)=(c.toNat:Int) / 16:=by unfold nib;rw [if_pos (by omega),show 1+(2*j+1) / 2=1+j by omega,hbyte]
  have hwx:IntKind.i64.wrap ((c.toNat:Int) % 16)=(c.toNat:Int) % 16:=wi (by omega) (by omega)
  have hwy:IntKind.i64.wrap ((c.toNat:Int) / 16)=(c.toNat:Int) / 16:=wi (by omega) (by omega)
  have hwj:IntKind.i64.wrap ((j:Int)+1)=(j:Int)+1:=wi (by omega) (by omega)
  have hfits:2*(j+1)≤hdN s+1:=by omega
  have hll:=zky (s:=s) (j:=j) (by omega)
  have hls:=znl (s:=s) (j:=j) hfits
  rw [hx,hy] at hls
  have hap:zbl (H4.push (.cells [.int .i64 ((c.toNat:Int) % 16),.int .i64 ((c.toNat:Int) / 16)] 3 true)) 3 1 8 (.slice (some ⟨H3.next,0,none⟩) (2*j) (hdN s+1)) 2 [.int .i64 ((c.toNat:Int) % 16),.int .i64 ((c.toNat:Int) / 16)]=
    some (.slice (some ⟨H3.next,0,none⟩) (2*j+2) (hdN s+1),(H4.push (.cells [.int .i64 ((c.toNat:Int) % 16),.int .i64 ((c.toNat:Int) / 16)] 3 true)).put H3.next (.cells (ints (lay s (j+1))) 3 true)):=by
   have hg:(H4.push (.cells [.int .i64 ((c.toNat:Int) % 16),.int .i64 ((c.toNat:Int) / 16)] 3 true)).get H3.next= .cells (ints (lay s j)) 3 true:=by rw [zae (by omega)];exact hN
   have hcx:¬hdN s+1=zas:=by
    have:1000< zas:=by decide
    omega
   have hro:(2*j+2)*8≤zag∧2*j+2≤zag:=by unfold zag;omega
   have hle:2*j+2≤hdN s+1:=by omega
   have hil:(ints (lay s j)).length=hdN s+1:=by simp [ints,hll]
   have hdl:decide (2*j+2≤(ints (lay s j)).length)=true:=by rw [hil];simp;omega
   simp only [zbl,hg,hro,and_self,if_true,hcx,if_false,hle,Bool.true_and,hdl,Nat.mul_one,Nat.zero_add]
   rw [hls];simp
  simp [s198_0,e4,e6,e24,e25,e26,h3,zac,hB,hcg,zfc,znk,zoQ,hwx,hwy,zaC,zaQ,zaw,cellsL,wr,zaJ,rd,hap,hwj]
  refine ⟨kN s - (j+1),by omega,j+1,by omega,rfl,by simp [next_put];omega,fun k hk=>?_,zad (by simp;omega),?_,rfl,by congr 1,rfl,rfl,by congr 1⟩
  ·rw [zaa (by omega),zae (by omega)];exact hold4 k hk
  ·rw [zaa (by omega),zae (by omega)];exact hB
 ·have h5:j=kN s:=by omega
  subst h5
  have hll:=zky (s:=s) (j:=kN s) (by omega)
  have hpr:PR s b H=PR s b H:=rfl
  have hiff:=zdS s
  have hold:∀k,k< H.next→k≠b→H4.get k=H.get k:=fun k hk hkb=>(hold4 k (by omega)).trans (hold2 k hk hkb)
  have hrd:Rd H4 b (s.drop (atN s)) false:=(hold4 b (by omega)).trans hr2
  have hgn:(ints (lay s (kN s)))[hdN s - 1]? =some (.int .i64 (nib s (hdN s - 1))):=by
   simp only [ints,List.getElem?_map];rw [zhD (by omega)];rfl
  have hwm:IntKind.i64.wrap ((hdN s:Int) - 1)=(hdN s:Int) - 1:=wi (by omega) (by omega)
  have htm:((hdN s:Int) - 1).toNat=hdN s - 1:=by omega
  have q1:(0:Int)≤(hdN s:Int) - 1:=by omega
  have q2:(hdN s:Int) - 1< ((2*kN s:Nat):Int):=by omega
  have q2':(hdN s:Int) - 1< 2*(kN s:Int):=by omega
  have q3:(1:Int)≤(hdN s:Int):=by omega
  have e6':e 6= .slice (some ⟨H3.next,0,none⟩) (2*kN s) (hdN s+1):=e6
  have hsl:∀{K:Kv},run S (.slc 3 1 (.c (.slice (some ⟨H3.next,0,none⟩) (2*kN s) (hdN s+1))) none (some (.c (.int .i64 (hdN s))))) [] H4 K=K (.slice (some ⟨H3.next,0,none⟩) (hdN s) (if hdN s+1=zas then zas else hdN s+1)) H4:=fun {K}=>zeQ (.inr (by omega)) hN (by omega)
  have his:Is H4 (.slice (some ⟨H3.next,0,none⟩) (hdN s) (if hdN s+1=zas then zas else hdN s+1)) (zaV s (hdN s)):=by
   refine .inr ⟨H3.next,0,_,_,_,by rw [zba],?_,hN,fun i x hx=>?_⟩
   ·rw [zba]
    by_cases hc:hdN s+1=zas
    ·left;rw [if_pos hc]
    ·right;rw [if_neg hc];omega
   ·have hi:=(List.getElem?_eq_some_iff.1 hx).1
    rw [zba] at hi
    rw [zgm hi] at hx
    simp only [Nat.zero_add,ints,List.getElem?_map]
    rw [zhD (by omega)]
    simpa using hx
  obtain ⟨a6,c6,he6,hiv⟩:=his.iv
  have hlast:∀(Q:Value→Heap→Prop),(∀v',Q v' H4→True)→True:=fun _ _=>trivial
  have hww:=zkw (c:=c6) hiv (by rw [zba];omega)
  rw [←he6] at hww
  have t1:(hdN s:Int)< 2*(kN s:Int)↔hdN s< 2*kN s:=by omega
  by_cases hodd:hdN s< 2*kN s
  ·have hodd':(hdN s:Int)< 2*(kN s:Int):=by omega
   have hgm:(ints (lay s (kN s)))[hdN s]? =some (.int .i64 (nib s (hdN s))):=by
    simp only [ints,List.getElem?_map];rw [zhD hodd];rfl
   by_cases hz:nib s (hdN s)=0
   ·by_cases hy:nib s (hdN s - 1)=0
    ·have hno:¬rok s:=fun h=>((zdS s).mpr h).2.2.2.1 hy
     simp [s198_0,e4,e6',e25,e26,hodd',hodd,zac,hN,hgm,hz,hwm,q1,q2',q3,htm,hgn,hy,tup]
     exact PR.no hno (by omega) hold
    ·simp [s198_0,e4,e6',e25,e26,hodd',hodd,zac,hN,hgm,hz,hwm,q1,q2',q3,htm,hgn,hy,hsl]
     refine hww.mono ?_
     rintro r H5 ⟨rfl,rfl⟩
     by_cases hwh:zaK (zaV s (hdN s))=true
     ·have hyes:=PR.yes (b:=b) (H0:=H) ((zdS s).mp ⟨hfit.1,hfit.2,fun _=>hz,hy,hwh⟩) (by omega) hold his hrd
      simp [hwh,e4,e6',hsl,tup]
      exact hyes
     ·have hno:¬rok s:=fun h=>hwh h.2.2.1
      simp [hwh,tup]
      exact PR.no hno (by omega) hold
   ·have hno:¬rok s:=fun h=>hz (((zdS s).mpr h).2.2.1 hodd)
    simp [s198_0,e4,e6',e25,e26,hodd',hodd,zac,hN,hgm,hz,tup]
    exact PR.no hno (by omega) hold
  ·have hodd':¬(hdN s:Int)< 2*(kN s:Int):=by omega
   by_cases hy:nib s (hdN s - 1)=0
   ·have hno:¬rok s:=fun h=>((zdS s).mpr h).2.2.2.1 hy
    simp [s198_0,e4,e6',e25,e26,hodd',hodd,zac,hN,hwm,q1,q2',q3,htm,hgn,hy,tup]
    exact PR.no hno (by omega) hold
   ·simp [s198_0,e4,e6',e25,e26,hodd',hodd,zac,hN,hwm,q1,q2',q3,htm,hgn,hy,hsl]
    refine hww.mono ?_
    rintro r H5 ⟨rfl,rfl⟩
    by_cases hwh:zaK (zaV s (hdN s))=true
    ·have hyes:=PR.yes (b:=b) (H0:=H) ((zdS s).mp ⟨hfit.1,hfit.2,fun h=>absurd h hodd,hy,hwh⟩) (by omega) hold his hrd
     simp [hwh,e4,e6',hsl,tup]
     exact hyes
    ·have hno:¬rok s:=fun h=>hwh h.2.2.1
     simp [hwh,tup]
     exact PR.no hno (by omega) hold
end
section
variable {H:Heap}
def zcr (v n:Nat):List Int:=(List.range n).map fun i=>((v / 2 ^ i % 2:Nat):Int)
theorem zjD (v n:Nat):zcr v (n+1)=zcr v n++ [((v / 2 ^ n % 2:Nat):Int)]:=by simp [zcr,List.range_succ]
theorem zcO (v n:Nat):(zcr v n).length=n:=by simp [zcr]
def ivs (l:List Int):List Value:=l.map fun x=> .int .i64 x
structure OfI (H0:Heap) (v n:Nat) (d:Nat) (e:Nat→Value) (H:Heap) (i:Nat):Prop where
 h1:i≤n
 h2:d=n - i
 hk:Kp H0.next H0 H
 hA:Acc 3 1 H0.next H.next H (e 5) i (ivs (zcr v i))
 e0:e 0= .int .u32 (v:Int)
 e1:e 1= .int .i64 (n:Int)
 e6:e 6= .int .i64 (i:Int)
theorem zsU (v n:Nat) (hv:v< 4294967296) (hn:n≤32):Wf S 173 [.int .u32 v,.int .i64 n] H fun r H'=>Kp H.next H H'∧Acc 3 1 H.next H'.next H' r n (ivs (zcr v n)):=by
 refine w173 rfl rfl _ _ ?_
 simp [s173]
 refine l173_0 S (fun d e H'=>∃i,OfI H v n d e H' i) n ⟨0,by omega,by omega,Kp.refl _ _,by simpa [zcr,ivs] using Acc.nil,by simp,by simp,by simp⟩ ?_
 rintro d e H' ⟨i,hi,rfl,hk,hA,e0,e1,e6⟩
 by_cases h3:i< n
 ·obtain ⟨D,hD⟩:∃D,D=v / 2 ^ i:=⟨_,rfl⟩
  obtain ⟨B,hB⟩:∃B,B=D % 2:=⟨_,rfl⟩
  have hDv:D≤v:=by rw [hD];exact Nat.div_le_self _ _
  have hib:min i IntKind.u32.bits=i:=by
   have:IntKind.u32.bits=32:=rfl
   omega
  have o1:zat .shr (.int .u32 (v:Int)) (.int .i64 (i:Int))=some (.int .u32 (D:Int)):=by
   rw [zcx,if_neg (by omega),Int.toNat_natCast,hib,Int.fdiv_eq_ediv_of_nonneg _ (by exact_mod_cast Nat.zero_le (2 ^ i)),hD]
   congr 2
  have w1:IntKind.i64.wrap (D:Int)=D:=wi (by omega) (by omega)
  have w2:IntKind.i64.wrap ((i:Int)+1)=(i:Int)+1:=wi (by omega) (by omega)
  have w3:IntKind.i64.wrap (B:Int)=(B:Int):=wi (by omega) (by omega)
  have hm:(D:Int).tmod 2=(B:Int):=by rw [hB];rw [Int.tmod_eq_emod_of_nonneg (by omega)];omega
  obtain ⟨v2,H2,hap,hA2,hn2,hk2⟩:=hA.app (bytes:=8) (new:= [.int .i64 (B:Int)]) hk.1 (Nat.le_refl _) rfl (by unfold zag;omega)
  simp [s173_0,e0,e1,e6,h3,o1,w1,w2,w3,hm,zaC,zaQ,zaw,cellsL,wr,zaJ,rd,hap]
  refine ⟨n - (i+1),by omega,i+1,by omega,rfl,⟨by have:=hk.1;omega,fun k hk'=>(hk2 k (by have:=hk.1;omega) (.inl hk')).trans (hk.2 k hk')⟩,?_,by simp [e0],by simp [e1],by simp⟩
  rw [zjD,←hD,←hB]
  simpa [ivs] using hA2
 ·have h5:i=n:=by omega
  subst h5
  simp [s173_0,e1,e6]
  exact ⟨hk,hA⟩
end
end Go.Proofs.YtjgpbhodbgjggaaGreat.K
