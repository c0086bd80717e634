/- A part of the proof of PClusterNobody, made small by a program of this work (mini.py). Conditions: none. -/
import Derived.Below
import Derived.Orders
import Derived.Laws.AppendOwn
import Derived.Laws.Slices
import Derived.Laws.Strings
import Derived.Laws.Tables
import Derived.Laws.MakeOwn
import Derived.Laws.BytesString
import Derived.Laws.StructEq
import Derived.Laws.BytesArg
import Derived.LoopN
set_option linter.defProp false
set_option linter.unusedVariables false
set_option linter.unusedSimpArgs false
namespace Go.Proofs.YtnbjcbhlbkmhoaaGreat.K
open Go
inductive Blk where
 |dead
 |cells (c:List Value) (t:TypeId) (rw:Bool)
 |map (es:List MapEntry) (clock:Nat)
 |iter (o:Obj)
def bs (l:List Nat):ByteArray:=⟨(l.map UInt8.ofNat).toArray⟩
abbrev Heap:=List Blk
def Heap.get:Heap→Nat→Blk
 | [],_=> .dead
 |x::_,0=>x
 |_::H,n+1=>Heap.get H n
def Heap.put:Heap→Nat→Blk→Heap
 | [],_,_=> []
 |_::H,0,b=>b::H
 |x::H,n+1,b=>x::Heap.put H n b
def Heap.next (H:Heap):Nat:=H.length
def Heap.push (H:Heap) (b:Blk):Heap:=H++ [b]
abbrev Env:=List Value
def Env.get:Env→Nat→Value
 | [],_=>undef
 |x::_,0=>x
 |_::e,n+1=>Env.get e n
def Env.set:Env→Nat→Value→Env
 | [],0,v=> [v]
 | [],n+1,v=>undef::Env.set [] n v
 |_::e,0,v=>v::e
 |x::e,n+1,v=>x::Env.set e n v
inductive Opd where
 |t (n:Nat)
 |c (v:Value)
def Env.ev (e:Env):Opd→Value
 | .t n=>e.get n
 | .c v=>v
inductive EqS where
 |int|str|bool
 deriving DecidableEq
inductive EqK where
 |s (k:EqS)
 |ptr|slice|map|func|ifc
 |agg (ks:List EqS)
 deriving DecidableEq
inductive KOp where
 |mv (x:Opd)
 |pick (c a b:Opd)
 |alloc (t:TypeId) (z:List Value)
 |box (t:TypeId) (x:Opd)
 |build (z:List Value) (ps:List (Nat×Nat×Opd))
 |bsl (t:TypeId) (len:Nat) (z:List Value) (ps:List (Nat×Nat×Opd))
 |ld (a:Opd)
 |ldn (n:Nat) (a:Opd)
 |st (a v:Opd)
 |stn (n:Nat) (a v:Opd)
 |nck (x:Opd)
 |bin (o:BinOp) (x y:Opd)
 |eqv (k:EqK) (neg:Bool) (x y:Opd)
 |un (o:UnOp) (x:Opd)
 |cvt (k:IntKind) (x:Opd)
 |s2b (t:TypeId) (x:Opd)
 |b2s (t:TypeId) (x:Opd)
 |mki (t:TypeId) (x:Opd)
 |mkf (f:Fn) (first cap:List Opd)
 |mkm
 |mks (t:TypeId) (z:List Value) (bytes:Nat) (l c:Opd)
 |slS (x:Opd) (lo hi:Option Opd)
 |slc (t:TypeId) (esz:Nat) (x:Opd) (lo hi:Option Opd)
 |sla (t:TypeId) (len esz:Nat) (x:Opd) (lo hi:Option Opd)
 |fad (off:Nat) (x:Opd)
 |fld (off:Nat) (x:Opd)
 |fldn (off n:Nat) (x:Opd)
 |iad (esz:Nat) (x i:Opd)
 |iada (len esz:Nat) (x i:Opd)
 |idS (x i:Opd)
 |ida (len:Nat) (x i:Opd)
 |idan (len esz:Nat) (x i:Opd)
 |xt (x:Opd) (i:Nat)
 |lenS (x:Opd)
 |lenL (x:Opd)
 |lenM (x:Opd)
 |mx (x:Opd) (xs:List Opd)
 |mn (x:Opd) (xs:List Opd)
 |app (t:TypeId) (esz bytes:Nat) (x y:Opd)
 |appS (t:TypeId) (x y:Opd)
 |cpy (t:TypeId) (esz:Nat) (x y:Opd)
 |del (kk:EqK) (m k:Opd)
 |lkp (kk:EqK) (z:Value) (ok:Bool) (m k:Opd)
 |mup (kk:EqK) (m k v:Opd)
 |men (kk:EqK) (z:Value) (m k:Opd)
 |mes (m s v:Opd)
 |tas (t:TypeId) (z:Value) (ok:Bool) (x:Opd)
 |call (f:FuncId) (args:List Opd)
 |callp (f:FuncId) (args:List Opd)
 |callv (f:Opd) (args:List Opd)
 |inv (r:Opd) (name:String) (args:List Opd)
 |nev
inductive zac where
 |op (dst:Option Nat) (g:Option (Nat×Bool)) (o:KOp)
 |chk (dst:Nat) (g:Option (Nat×Bool)) (o:KOp)
inductive zae where
 |skip
 |reg (l:List zac)
 |seq (a b:zae)
 |cond (c:Opd) (a b:zae)
 |block (id:Nat) (c:zae)
 |loop (c:zae)
 |exit (id:Nat)
 |ret
 |nev
 |mdec (m r:Nat) (kk:EqK) (o:BinOp) (c:Value)
 |back (g p1 p2:Nat) (asg body:zae)
inductive zaY where
 |t (n:Nat)
 |c1 (a:Nat)
 |cn (a n:Nat)
structure zaa where
 nt:Nat
 body:zae
 res:List zaY
def zaT:Nat:=2 ^ 70
def cellsL:Value→List Value
 | .agg cs=>cs.toList
 |v=> [v]
def zaN:Value→Bool
 | .tuple _=>true
 |_=>false
def zaq:Value→Bool
 | .agg _| .tuple _=>false
 |_=>true
def rd (c:List Value) (off n:Nat):Option (List Value):=if off+n≤c.length then some ((c.drop off).take n) else none
def wr (c:List Value) (off:Nat) (vs:List Value):List Value:=c.take off++vs++c.drop (off+vs.length)
def zeros (z:List Value) (n:Nat):List Value:=(List.replicate n z).flatten
def kLd (H:Heap):Value→Option Value
 | .pointer (some a)=>match H.get a.block with
   | .cells c _ _=>c[a.off]?
   |_=>none
 |_=>none
def zbq (H:Heap) (n:Nat):Value→Option Value
 | .pointer (some a)=>match H.get a.block with
   | .cells c _ _=>(rd c a.off n).map fun l=> .agg l.toArray
   |_=>none
 |_=>none
def kSt (H:Heap):Value→Value→Option Heap
 | .pointer (some a),v=>match H.get a.block with
   | .cells c t true=>if a.off< c.length && zaq v then some (H.put a.block (.cells (c.set a.off v) t true)) else none
   |_=>none
 |_,_=>none
def zeU (H:Heap) (n:Nat):Value→Value→Option Heap
 | .pointer (some a),.agg vs=>match H.get a.block with
   | .cells c t true=>if a.off+n≤c.length && vs.size==n then some (H.put a.block (.cells (wr c a.off vs.toList) t true)) else none
   |_=>none
 |_,_=>none
def zaD:List Value→List (Nat×Nat×Value)→Option (List Value)
 |z,[]=>some z
 |z,(off,n,v)::ps=>if !zaN v && (cellsL v).length==n && off+n≤z.length then zaD (wr z off (cellsL v)) ps else none
def zaR (e:Env) (ps:List (Nat×Nat×Opd)):List (Nat×Nat×Value):=ps.map fun p=>(p.1,p.2.1,e.ev p.2.2)
def zcl (o:BinOp) (k:IntKind) (a b:Int):Option Value:=
 match o with
 | .add=>some (.int k (k.wrap (a+b)))
 | .sub=>some (.int k (k.wrap (a - b)))
 | .mul=>some (.int k (k.wrap (a*b)))
 | .quo=>if b=0 then none else some (.int k (k.wrap (a.tdiv b)))
 | .rem=>if b=0 then none else some (.int k (a.tmod b))
 | .and=>some (.int k (k.wrap (BitVec.ofInt k.bits a &&& BitVec.ofInt k.bits b).toNat))
 | .or=>some (.int k (k.wrap (BitVec.ofInt k.bits a|||BitVec.ofInt k.bits b).toNat))
 | .xor=>some (.int k (k.wrap (BitVec.ofInt k.bits a ^^^ BitVec.ofInt k.bits b).toNat))
 | .andNot=>some (.int k (k.wrap (BitVec.ofInt k.bits a &&& ~~~(BitVec.ofInt k.bits b)).toNat))
 | .eql=>some (.bool (a==b))
 | .neq=>some (.bool (a !=b))
 | .lss=>some (.bool (a< b))
 | .leq=>some (.bool (a≤b))
 | .gtr=>some (.bool (a>b))
 | .geq=>some (.bool (a≥b))
 | .shl| .shr=>none
def ziz (o:BinOp) (a b:ByteArray):Option Value:=
 match o with
 | .add=>if ((a.size+b.size:Nat):Int)>IntKind.i64.max then none else some (.string (a++b))
 | .eql=>some (.bool (a.toList==b.toList))
 | .neq=>some (.bool !(a.toList==b.toList))
 | .lss=>some (.bool (Op.bytesLess a.toList b.toList))
 | .leq=>some (.bool (Op.bytesLess a.toList b.toList||a.toList==b.toList))
 | .gtr=>some (.bool !(Op.bytesLess a.toList b.toList||a.toList==b.toList))
 | .geq=>some (.bool !(Op.bytesLess a.toList b.toList))
 |_=>none
def zaU (o:BinOp):Value→Value→Option Value
 | .int k a,.int k' b=>
   match o with
   | .shl=>if b< 0 then none else some (.int k (k.wrap (a*2 ^ (min b.toNat k.bits))))
   | .shr=>if b< 0 then none else some (.int k (a.fdiv (2 ^ (min b.toNat k.bits))))
   |o=>if k=k' then zcl o k a b else none
 | .string a,.string b=>ziz o a b
 |_,_=>none
def zb4:EqS→Value→Value→Option Bool
 | .bool,.bool a,.bool b=>some (a==b)
 | .int,.int k a,.int k' b=>if k=k' then some (a==b) else none
 | .str,.string a,.string b=>some (a.toList==b.toList)
 |_,_,_=>none
def zbN:List EqS→List Value→List Value→Option Bool
 | [],[],[]=>some true
 |k::ks,x::xs,y::ys=>(zb4 k x y).bind fun b=>if b then zbN ks xs ys else if xs.length=ks.length∧ys.length=ks.length then some false else none
 |_,_,_=>none
def kEq:EqK→Value→Value→Option Bool
 | .s k,x,y=>zb4 k x y
 | .ptr,.pointer none,.pointer b=>some b.isNone
 | .ptr,.pointer (some _),.pointer none=>some false
 | .slice,.slice none _ _,.slice b _ _=>some b.isNone
 | .slice,.slice (some _) _ _,.slice none _ _=>some false
 | .map,.map none,.map b=>some b.isNone
 | .map,.map (some _),.map none=>some false
 | .func,.nilFunc,.nilFunc=>some true
 | .func,.func _ _ _,.nilFunc=>some false
 | .ifc,.nilIface,.nilIface=>some true
 | .ifc,.iface _ _,.nilIface=>some false
 | .agg ks,.agg xs,.agg ys=>zbN ks xs.toList ys.toList
 |_,_,_=>none
def kUn (o:UnOp):Value→Option Value
 | .int k n=>match o with
   | .neg=>some (.int k (k.wrap (0 - n)))
   | .xor=>some (.int k (k.wrap (BitVec.ofInt k.bits (if k.signed then -1 else k.max) ^^^ BitVec.ofInt k.bits n).toNat))
   |_=>none
 | .bool b=>match o with
   | .not=>some (.bool !b)
   |_=>none
 |_=>none
def zbh:List Value→Option (List UInt8)
 | []=>some []
 | .int .u8 n::l=>(zbh l).map (UInt8.ofNat n.toNat::·)
 |_::_=>none
def zf6 (s:ByteArray) (l h:Int):Option Value:=
 if 0≤l∧l≤h∧h≤s.size then some (.string (s.extract l.toNat h.toNat)) else none
def evI (e:Env) (d:Int):Option Opd→Option Int
 |none=>some d
 |some x=>match e.ev x with
  | .int _ n=>some n
  |_=>none
def zal (a:Addr) (n:Nat):Addr:=⟨a.block,a.off+n,none⟩
def zec (H:Heap) (t:TypeId) (esz:Nat) (v:Value) (l:Int) (h:Option Int):Option Value:=
 match v with
 | .slice none n c=>if c=zaT then none else
  if 0≤l∧l≤h.getD n∧h.getD n≤c then some (.slice none (h.getD n - l).toNat (c - l.toNat)) else none
 | .slice (some a) n c=>match H.get a.block with
   | .cells _ t' _=>
     if t'=t then
      if c=zaT then
       if 0≤l∧l≤h.getD n∧h.getD n≤n then some (.slice (some (zal a (l.toNat*esz))) (h.getD n - l).toNat zaT) else none
      else
       if 0≤l∧l≤h.getD n∧h.getD n≤c then
        some (.slice (some (if l.toNat=c then a else zal a (l.toNat*esz))) (h.getD n - l).toNat (c - l.toNat)) else none
     else none
   |_=>none
 |_=>none
def zcS (H:Heap) (t:TypeId) (z:List Value) (bytes:Nat):Value→Value→Option (Value×Heap)
 | .int _ l,.int _ c=>
   if 0≤l∧l≤c∧c≤9223372036854775807∧(bytes:Int)*c≤281474976710656 then some (.slice (some ⟨H.next,0,none⟩) l.toNat c.toNat,H.push (.cells (zeros z c.toNat) t true)) else none
 |_,_=>none
def zfM (H:Heap) (t:TypeId) (len esz:Nat) (a:Addr) (l h:Int):Option Value:=
 match H.get a.block with
 | .cells cs t' _=>if t'=t∧a.off+len*esz≤cs.length∧0≤l∧l≤h∧h≤len then some (.slice (some (if l.toNat=len then a else zal a (l.toNat*esz))) (h - l).toNat (len - l.toNat)) else none
 |_=>none
def zar:Nat:=140737488355328
def zbz (H:Heap) (t:TypeId) (esz n:Nat):Option Addr→Option (List Value)
 |none=>if n=0 then some [] else none
 |some a=>match H.get a.block with
  | .cells c t' _=>if t'=t then rd c a.off (n*esz) else none
  |_=>none
def zcm (H:Heap) (t:TypeId) (esz bytes:Nat) (v:Value) (m:Nat) (news:List Value):Option (Value×Heap):=
 match v with
 | .slice none n c=>
   if n=0∧c=0∧m*bytes≤zar∧m≤zar then
    if m=0 then some (v,H) else some (.slice (some ⟨H.next,0,none⟩) m zaT,H.push (.cells news t true))
   else none
 | .slice (some a) n c=>match H.get a.block with
   | .cells cs t' rw=>
     if t'=t∧(n+m)*bytes≤zar∧n+m≤zar then
      if c=zaT then
       if m=0 then some (v,H)
       else if rw then (rd cs a.off (n*esz)).map fun olds=>(.slice (some ⟨H.next,0,none⟩) (n+m) zaT,(H.put a.block .dead).push (.cells (olds++news) t true))
       else none
      else if n+m≤c then
       if m=0 then some (v,H)
       else if rw && decide (a.off+(n+m)*esz≤cs.length) then some (.slice (some a) (n+m) c,H.put a.block (.cells (wr cs (a.off+n*esz) news) t true)) else none
      else (rd cs a.off (n*esz)).map fun olds=>(.slice (some ⟨H.next,0,none⟩) (n+m) zaT,H.push (.cells (olds++news) t true))
     else none
   |_=>none
 |_=>none
def zas (s:ByteArray):List Value:=s.data.toList.map fun b=> .int .u8 b.toNat
def zbm:EqS→Value→Bool
 | .int,.int _ _| .str,.string _| .bool,.bool _=>true
 |_,_=>false
def za8:List EqS→List Value→Bool
 | [],[]=>true
 |k::ks,x::xs=>zbm k x && za8 ks xs
 |_,_=>false
def zbd:EqK→Value→Bool
 | .s k,x=>zbm k x
 | .agg ks,.agg xs=>za8 ks xs.toList
 |_,_=>false
def zaC (kk:EqK) (k:Value):List MapEntry→Nat→Option (Option (Nat×MapEntry))
 | [],_=>some none
 |e::es,i=>(kEq kk k e.key).bind fun b=>if b then some (some (i,e)) else zaC kk k es (i+1)
def zdr (H:Heap):Value→Option (List MapEntry×Nat)
 | .map (some r)=>match H.get r with
   | .map es c=>some (es,c)
   |_=>none
 | .map none=>some ([],0)
 |_=>none
def zf7 (H:Heap) (kk:EqK) (m k v:Value):Option Heap:=
 match m with
 | .map (some r)=>match H.get r with
   | .map es c=>if zbd kk k then (zaC kk k es 0).map fun
    |some (i,e)=>H.put r (.map (es.set i {e with key:=k,val:=v}) c)
    |none=>H.put r (.map (es++ [{key:=k,val:=v,born:=c}]) (c+1)) else none
   |_=>none
 |_=>none
def ziA (H:Heap) (kk:EqK) (z m k:Value):Option (Value×Heap):=
 match m with
 | .map (some r)=>match H.get r with
   | .map es c=>if zbd kk k then (zaC kk k es 0).map fun
    |some (i,e)=>(.tuple #[e.val,.int .i64 e.born],H.put r (.map (es.set i {e with key:=k}) c))
    |none=>(.tuple #[z,.int .i64 c],H.put r (.map (es++ [{key:=k,val:=z,born:=c}]) (c+1))) else none
   |_=>none
 |_=>none
def zed (es:List MapEntry) (b:Int):Option Nat:=es.findIdx? fun e=>(e.born:Int)==b
def ziB (H:Heap) (m s v:Value):Option Heap:=
 match m,s with
 | .map (some r),.int _ b=>match H.get r with
   | .map es c=>match zed es b with
     |some i=>match es[i]? with
      |some e=>some (H.put r (.map (es.set i {e with val:=v}) c))
      |none=>none
     |none=>none
   |_=>none
 |_,_=>none
def ziC (H:Heap) (kk:EqK) (m k:Value):Option Heap:=
 match m with
 | .map none=>if zbd kk k then some H else none
 | .map (some r)=>match H.get r with
   | .map es c=>if zbd kk k then (zaC kk k es 0).map fun
    |some (i,_)=>H.put r (.map (es.eraseIdx i) c)
    |none=>H else none
   |_=>none
 |_=>none
def zaP (e:Env):Option Nat→Value→Env
 |none,_=>e
 |some d,v=>e.set d v
def noV:Value:=undef
def kMx:Value→List Value→Option Value
 | .int k a,[]=>some (.int k a)
 | .int k a,.int _ b::l=>kMx (.int k (if b>a then b else a)) l
 |_,_=>none
def kMn:Value→List Value→Option Value
 | .int k a,[]=>some (.int k a)
 | .int k a,.int _ b::l=>kMn (.int k (if b< a then b else a)) l
 |_,_=>none
def zfN (H:Heap) (t:TypeId) (z:Value) (ok:Bool):Value→Option (Value×Heap)
 | .iface t' v=>if t'=t then some (if ok then .tuple #[v,.bool true] else v,H) else if ok then some (.tuple #[z,.bool false],H) else none
 | .nilIface=>if ok then some (.tuple #[z,.bool false],H) else none
 |_=>none
def kop (o:KOp) (e:Env) (H:Heap):Option (Value×Heap):=
 match o with
 | .mv x=>some (e.ev x,H)
 | .pick c a b=>match e.ev c with
   | .bool t=>some (if t then e.ev a else e.ev b,H)
   |_=>none
 | .alloc t z=>some (.pointer (some ⟨H.next,0,none⟩),H.push (.cells z t true))
 | .box t x=>if zaN (e.ev x) then none else some (.pointer (some ⟨H.next,0,none⟩),H.push (.cells (cellsL (e.ev x)) t true))
 | .build z ps=>(zaD z (zaR e ps)).map fun c=>(.agg c.toArray,H)
 | .bsl t len z ps=>(zaD z (zaR e ps)).map fun c=>(.slice (some ⟨H.next,0,none⟩) len len,H.push (.cells c t true))
 | .ld a=>(kLd H (e.ev a)).map (·,H)
 | .ldn n a=>(zbq H n (e.ev a)).map (·,H)
 | .st a v=>(kSt H (e.ev a) (e.ev v)).map (noV,·)
 | .stn n a v=>(zeU H n (e.ev a) (e.ev v)).map (noV,·)
 | .nck x=>match e.ev x with
   | .pointer (some a)=>some (.pointer (some a),H)
   | .func (.func f) a b=>some (.func (.func f) a b,H)
   |_=>none
 | .bin o x y=>(zaU o (e.ev x) (e.ev y)).map (·,H)
 | .eqv k neg x y=>(kEq k (e.ev x) (e.ev y)).map fun b=>(.bool (b !=neg),H)
 | .un o x=>(kUn o (e.ev x)).map (·,H)
 | .cvt k x=>match e.ev x with
   | .int _ n=>some (.int k (k.wrap n),H)
   |_=>none
 | .s2b t x=>match e.ev x with
   | .string s=>if s.size≤zar then some (.slice (some ⟨H.next,0,none⟩) s.size zaT,H.push (.cells (zas s) t true)) else none
   |_=>none
 | .b2s t x=>match e.ev x with
   | .slice a n _=>(zbz H t 1 n a).bind fun l=>(zbh l).map fun bs=>(.string ⟨bs.toArray⟩,H)
   |_=>none
 | .mki t x=>if zaN (e.ev x) then none else some (.iface t (e.ev x),H)
 | .mkf f first cap=>some (.func f (first.map e.ev).toArray (cap.map e.ev).toArray,H)
 | .mkm=>some (.map (some H.next),H.push (.map [] 0))
 | .mks t z bytes l c=>zcS H t z bytes (e.ev l) (e.ev c)
 | .slS x lo hi=>match e.ev x with
   | .string s=>(evI e 0 lo).bind fun l=>(evI e s.size hi).bind fun h=>(zf6 s l h).map (·,H)
   |_=>none
 | .slc t esz x lo hi=>(evI e 0 lo).bind fun l=>match hi with
   |none=>(zec H t esz (e.ev x) l none).map (·,H)
   |some hi=>(evI e 0 (some hi)).bind fun h=>(zec H t esz (e.ev x) l (some h)).map (·,H)
 | .sla t len esz x lo hi=>(evI e 0 lo).bind fun l=>(evI e len hi).bind fun h=>match e.ev x with
   | .pointer (some a)=>(zfM H t len esz a l h).map (·,H)
   |_=>none
 | .fad off x=>match e.ev x with
   | .pointer (some a)=>some (.pointer (some (zal a off)),H)
   |_=>none
 | .fld off x=>match e.ev x with
   | .agg cs=>(cs.toList[off]?).map (·,H)
   |_=>none
 | .fldn off n x=>match e.ev x with
   | .agg cs=>(rd cs.toList off n).map fun l=>(.agg l.toArray,H)
   |_=>none
 | .iad esz x i=>match e.ev x,e.ev i with
   | .slice (some a) n _,.int _ i=>if 0≤i∧i< n then some (.pointer (some (zal a (i.toNat*esz))),H) else none
   |_,_=>none
 | .iada len esz x i=>match e.ev x,e.ev i with
   | .pointer (some a),.int _ i=>if 0≤i∧i< len then some (.pointer (some (zal a (i.toNat*esz))),H) else none
   |_,_=>none
 | .idS x i=>match e.ev x,e.ev i with
   | .string s,.int _ i=>if 0≤i then (s.data.toList[i.toNat]?).map fun b=>(.int .u8 b.toNat,H) else none
   |_,_=>none
 | .ida len x i=>match e.ev x,e.ev i with
   | .agg cs,.int _ i=>if 0≤i∧i< len then (cs.toList[i.toNat]?).map (·,H) else none
   |_,_=>none
 | .idan len esz x i=>match e.ev x,e.ev i with
   | .agg cs,.int _ i=>if 0≤i∧i< len then (rd cs.toList (i.toNat*esz) esz).map fun l=>(.agg l.toArray,H) else none
   |_,_=>none
 | .xt x i=>match e.ev x with
   | .tuple vs=>(vs.toList[i]?).map (·,H)
   |_=>none
 | .lenS x=>match e.ev x with
   | .string s=>some (.int .i64 s.size,H)
   |_=>none
 | .lenL x=>match e.ev x with
   | .slice _ n _=>some (.int .i64 n,H)
   |_=>none
 | .lenM x=>(zdr H (e.ev x)).map fun p=>(.int .i64 p.1.length,H)
 | .mx x xs=>(kMx (e.ev x) (xs.map e.ev)).map (·,H)
 | .mn x xs=>(kMn (e.ev x) (xs.map e.ev)).map (·,H)
 | .app t esz bytes x y=>match e.ev y with
   | .slice a m _=>(zbz H t esz m a).bind fun news=>zcm H t esz bytes (e.ev x) m news
   |_=>none
 | .appS t x y=>match e.ev y with
   | .string s=>zcm H t 1 1 (e.ev x) s.size (zas s)
   |_=>none
 | .cpy t esz x y=>match e.ev x,e.ev y with
   | .slice a n _,.slice b m _=>(zbz H t esz (min m n) b).bind fun l=>
    match a with
    |none=>some (.int .i64 (min m n:Nat),H)
    |some a=>match H.get a.block with
     | .cells c t' true=>if t'=t && decide (a.off+l.length≤c.length) then some (.int .i64 (min m n:Nat),H.put a.block (.cells (wr c a.off l) t' true)) else none
     |_=>none
   |_,_=>none
 | .del kk m k=>(ziC H kk (e.ev m) (e.ev k)).map (.tuple #[],·)
 | .lkp kk z ok m k=>(zdr H (e.ev m)).bind fun p=>if zbd kk (e.ev k) then (zaC kk (e.ev k) p.1 0).map fun
  |some (_,en)=>(if ok then .tuple #[en.val,.bool true] else en.val,H)
  |none=>(if ok then .tuple #[z,.bool false] else z,H) else none
 | .mup kk m k v=>(zf7 H kk (e.ev m) (e.ev k) (e.ev v)).map (noV,·)
 | .men kk z m k=>ziA H kk z (e.ev m) (e.ev k)
 | .mes m s v=>(ziB H (e.ev m) (e.ev s) (e.ev v)).map (noV,·)
 | .tas t z ok x=>zfN H t z ok (e.ev x)
 | .call _ _| .callp _ _| .callv _ _| .inv _ _ _| .nev=>none
inductive Recv where
 |as
 |ld
 |ldn (n:Nat)
abbrev zat:=FuncId→List Value→Heap→Option (Value×Heap)
structure Sys where
 F:FuncId→Option zaa
 M:TypeId→String→Option (FuncId×Recv)
 R:FuncId→Option (List Value→Heap→Option (Value×Heap))
 B:FuncId→Bool
def zbO (H:Heap) (v:Value):Recv→Option Value
 | .as=>some v
 | .ld=>kLd H v
 | .ldn n=>zbq H n v
def gnd1:Value→Bool
 | .bool _| .int _ _| .string _=>true
 |_=>false
def zb9:Value→Bool
 | .agg xs| .tuple xs=>xs.toList.all gnd1
 |v=>gnd1 v
def zaz (S:Sys) (call:zat) (o:KOp) (e:Env) (H:Heap):Option (Value×Heap):=
 match o with
 | .call f args=>call f (args.map e.ev) H
 | .callp f args=>if (args.map e.ev).all zb9 then (call f (args.map e.ev) []).bind fun p=>if zb9 p.1 then some (p.1,H) else none else none
 | .callv f args=>match e.ev f with
   | .func (.func f) first cap=>call f (first.toList++args.map e.ev++cap.toList) H
   |_=>none
 | .inv r name args=>match e.ev r with
   | .iface t v=>(S.M t name).bind fun p=>(zbO H v p.2).bind fun x=>call p.1 (x::args.map e.ev) H
   |_=>none
 |o=>kop o e H
def wants (e:Env):Option (Nat×Bool)→Bool
 |none=>true
 |some (s,w)=>match e.get s with
  | .bool b=>b==w
  |_=>false
def veq1:Value→Value→Bool
 | .bool a,.bool b=>a==b
 | .int k a,.int k' b=>decide (k=k') && decide (a=b)
 | .string a,.string b=>decide (a=b)
 | .pointer a,.pointer b=>decide (a=b)
 | .slice a n c,.slice a' n' c'=>decide (a=a') && decide (n=n') && decide (c=c')
 | .map a,.map b=>decide (a=b)
 | .nilFunc,.nilFunc=>true
 | .nilIface,.nilIface=>true
 |_,_=>false
def zeV:List Value→List Value→Bool
 | [],[]=>true
 |x::xs,y::ys=>veq1 x y && zeV xs ys
 |_,_=>false
def veq:Value→Value→Bool
 | .agg xs,.agg ys=>zeV xs.toList ys.toList
 |x,y=>veq1 x y
def zaw (S:Sys) (call:zat):zac→Env→Heap→Option (Env×Heap)
 | .op dst g o,e,H=>if wants e g then (zaz S call o e H).map fun p=>(zaP e dst p.1,p.2) else some (zaP e dst undef,H)
 | .chk dst g o,e,H=>if wants e g then (kop o e H).bind fun p=>if veq p.1 (e.get dst) then some (e,H) else none else some (e,H)
def zao (S:Sys) (call:zat):List zac→Env→Heap→Option (Env×Heap)
 | [],e,H=>some (e,H)
 |s::l,e,H=>(zaw S call s e H).bind fun p=>zao S call l p.1 p.2
inductive zai where
 |normal
 |exit (id:Nat)
 |ret
 deriving DecidableEq
structure KSt where
 x:zai
 e:Env
 H:Heap
def zaZ (f:Env→Heap→Option KSt):Nat→Env→Heap→Option KSt
 |0,_,_=>none
 |m+1,e,H=>(f e H).bind fun s=>match s.x with
  | .normal=>zaZ f m s.e s.H
  |_=>some s
def zfO (o:BinOp) (c:Value):List MapEntry→Option (List MapEntry)
 | []=>some []
 |en::es=>(zaU o en.val c).bind fun v=>(zfO o c es).map ({en with val:=v}::·)
def zc6 (kk:EqK) (es:List MapEntry):List MapEntry→Nat→Bool
 | [],_=>true
 |en::l,i=>zbd kk en.key && (match zaC kk en.key es 0 with
  |some (some (j,_))=>j==i
  |_=>false) && zc6 kk es l (i+1)
def zf8 (es:List MapEntry) (ck:Nat):Bool:=decide ((es.map (·.born)).Nodup) && es.all (fun e=>decide (e.born< ck))
def zfP (kk:EqK) (o:BinOp) (c:Value) (m:Value) (H:Heap):Option (Value×Heap):=
 match m with
 | .map (some b)=>match H.get b with
   | .map es ck=>if zc6 kk es es 0 && zf8 es ck then (zfO o c es).map fun es'=>(.map (some b),(H.push .dead).put b (.map es' ck)) else none
   |_=>none
 |_=>none
def zf9 (H:Heap) (v:Value) (i:Nat):Option Value:=match v with
 | .slice (some a) n _=>if i< n then kLd H (.pointer (some (zal a i))) else none
 |_=>none
def zc7 (B:FuncId→Bool):Value→Option Addr
 | .func (.func f) fs cs=>if B f then match fs.toList,cs.toList with
   | [],[.pointer (some c)]=>some c
   |_,_=>none else none
 |_=>none
def zee:Value→Option Nat
 | .slice _ n _=>if n≤1099511627776 then some n else none
 |_=>none
def zds (f:Nat→Heap→Option (zai×Heap)):Nat→Heap→Option (zai×Heap)
 |0,H=>some (.normal,H)
 |i+1,H=>(f i H).bind fun r=>match r.1 with
  | .normal=>zds f i r.2
  | .ret=>some r
  | .exit _=>none
def zef (asg body:Env→Heap→Option KSt) (e:Env) (p1 p2:Nat) (c:Addr) (i:Nat) (H:Heap):Option (zai×Heap):=
 (kLd H (.pointer (some c))).bind fun v=>(zf9 H v i).bind fun x=>(asg ((e.set p1 (.int .i64 i)).set p2 x) H).bind fun s=>match s.x with
  | .normal=>(body s.e s.H).map fun s2=>(s2.x,s2.H)
  |_=>none
def zad (S:Sys) (call:zat) (n:Nat):zae→Env→Heap→Option KSt
 | .skip,e,H=>some ⟨.normal,e,H⟩
 | .reg l,e,H=>(zao S call l e H).map fun p=>⟨.normal,p.1,p.2⟩
 | .seq a b,e,H=>(zad S call n a e H).bind fun s=>match s.x with
   | .normal=>zad S call n b s.e s.H
   |_=>some s
 | .cond c a b,e,H=>match e.ev c with
   | .bool true=>zad S call n a e H
   | .bool false=>zad S call n b e H
   |_=>none
 | .block id c,e,H=>(zad S call n c e H).map fun s=>if s.x= .exit id then ⟨.normal,s.e,s.H⟩ else s
 | .loop c,e,H=>zaZ (fun e H=>zad S call n c e H) n e H
 | .exit id,e,H=>some ⟨.exit id,e,H⟩
 | .ret,e,H=>some ⟨.ret,e,H⟩
 | .nev,_,_=>none
 | .mdec m r kk o c,e,H=>(zfP kk o c (e.get m) H).map fun p=>⟨.ret,e.set r p.1,p.2⟩
 | .back g p1 p2 asg body,e,H=>(zc7 S.B (e.get g)).bind fun c=>(kLd H (.pointer (some c))).bind fun v=>(zee v).bind fun l=>
   (zds (zef (fun e H=>zad S call n asg e H) (fun e H=>zad S call n body e H) e p1 p2 c) l H).map fun r=>⟨r.1,e,r.2⟩
def zcL (e:Env) (H:Heap):zaY→Option Value
 | .t n=>some (e.get n)
 | .c1 a=>kLd H (e.get a)
 | .cn a n=>zbq H n (e.get a)
def zcn (e:Env) (H:Heap):List zaY→Option (List Value)
 | []=>some []
 |r::rs=>(zcL e H r).bind fun v=>(zcn e H rs).map (v::·)
def tup:List Value→Value
 | [v]=>v
 |vs=> .tuple vs.toArray
def zdt (e:Env) (H:Heap) (rs:List zaY):Option Value:=(zcn e H rs).map tup
def zbA (S:Sys):Nat→zat
 |0=>fun _ _ _=>none
 |n+1=>fun f args H=>match S.R f with
  |some p=>p args H
  |none=>(S.F f).bind fun k=>(zad S (zbA S n) n k.body args H).bind fun s=>
   if s.x= .normal∨s.x= .ret then (zdt s.e s.H k.res).map (·,s.H) else none
end Go.Proofs.YtnbjcbhlbkmhoaaGreat.K
namespace Go.Proofs.YtnbjcbhlbkmhoaaGreat.K
open Go Go.RowKit
structure Fz where
 fr:Nat→Prop
 gh:Nat→Prop
structure Bel (F:Fz) (w w':World):Prop where
 os:w'.os=w.os
 tape:w'.tape=w.tape
 output:w'.output=w.output
 size:w.heap.size≤w'.heap.size
 block:∀k,F.fr k∨F.gh k→w'.heap[k]? =w.heap[k]?
theorem Bel.refl (F:Fz) (w:World):Bel F w w:=⟨rfl,rfl,rfl,Nat.le_refl _,fun _ _=>rfl⟩
theorem Bel.trans {F:Fz} {a b c:World} (h:Bel F a b) (k:Bel F b c):Bel F a c:=
 ⟨k.os.trans h.os,k.tape.trans h.tape,k.output.trans h.output,Nat.le_trans h.size k.size,fun i hi=>(k.block i hi).trans (h.block i hi)⟩
theorem Bel.mono {F F':Fz} {w w':World} (h:Bel F w w') (hF:∀k,F'.fr k∨F'.gh k→F.fr k∨F.gh k):Bel F' w w':=⟨h.os,h.tape,h.output,h.size,fun k hk=>h.block k (hF k hk)⟩
theorem Bel.drew {F:Fz} {a w:World} (h:Bel F a w):Bel F a w.drew:=⟨h.os,h.tape,h.output,h.size,h.block⟩
theorem Bel.alloc {F:Fz} {a w:World} (h:Bel F a w) (hF:∀k,F.fr k∨F.gh k→k< w.heap.size) (o:Obj):Bel F a (w.alloc o):=
 h.trans ⟨rfl,rfl,rfl,by simp,fun k hk=>Below.heap_alloc _ _ _ (hF k hk)⟩
def Fz.lo (n:Nat):Fz:=⟨fun k=>k< n,fun _=>False⟩
theorem Bel.below {w w':World} (h:Bel (Fz.lo w.heap.size) w w'):Below w.heap.size w w':=⟨h.os,h.tape,h.output,h.size,fun k hk=>h.block k (.inl hk)⟩
structure Loc where
 block:Nat
 off:Nat
 size:Nat
 elem:TypeId
abbrev Rho:=List Loc
section
variable (P:Program)
inductive VRel (ρ:Rho):Value→Value→Prop
 |bool (b:Bool):VRel ρ (.bool b) (.bool b)
 |int (k:IntKind) (n:Int):VRel ρ (.int k n) (.int k n)
 |string (s:ByteArray):VRel ρ (.string s) (.string s)
 |pnil:VRel ρ (.pointer none) (.pointer none)
 |ptr {b off:Nat} {L:Loc} (h:ρ[b]? =some L):VRel ρ (.pointer (some ⟨b,off,none⟩)) (.pointer (some ⟨L.block,L.off+off,none⟩))
 |snil:VRel ρ (.slice none 0 0) (.slice none 0 0)
 |sl {b off n c c':Nat} {L:Loc} (h:ρ[b]? =some L) (hn:n≤c') (hc:c'=c∨c=zaT) (hs:L.off+off+c'*P.cellsOf L.elem≤L.size):
  VRel ρ (.slice (some ⟨b,off,none⟩) n c) (.slice (some ⟨L.block,L.off+off,none⟩) n c')
 |sl0 {b off:Nat} {a':Addr}:VRel ρ (.slice (some ⟨b,off,none⟩) 0 zaT) (.slice (some a') 0 0)
 |mnil:VRel ρ (.map none) (.map none)
 |map {b:Nat} {L:Loc} (h:ρ[b]? =some L):VRel ρ (.map (some b)) (.map (some L.block))
 |func (f:Fn) {a a' c c':Array Value} (hs:a.size=a'.size) (h:∀(i:Nat) x y,a[i]? =some x→a'[i]? =some y→VRel ρ x y)
  (hs2:c.size=c'.size) (h2:∀(i:Nat) x y,c[i]? =some x→c'[i]? =some y→VRel ρ x y):VRel ρ (.func f a c) (.func f a' c')
 |nilFunc:VRel ρ .nilFunc .nilFunc
 |nilIface:VRel ρ .nilIface .nilIface
 |iface (t:TypeId) {v v':Value} (h:VRel ρ v v'):VRel ρ (.iface t v) (.iface t v')
 |agg {xs ys:Array Value} (hs:xs.size=ys.size) (h:∀(i:Nat) x y,xs[i]? =some x→ys[i]? =some y→VRel ρ x y)
  (ho:∀(i:Nat) x,xs[i]? =some x→zaq x=true):VRel ρ (.agg xs) (.agg ys)
 |tuple {xs ys:Array Value} (hs:xs.size=ys.size) (h:∀(i:Nat) x y,xs[i]? =some x→ys[i]? =some y→VRel ρ x y):
  VRel ρ (.tuple xs) (.tuple ys)
variable {P}
theorem zcV {ρ ρ':Rho} (h:ρ<+:ρ') {b:Nat} {L:Loc} (hb:ρ[b]? =some L):ρ'[b]? =some L:=by
 obtain ⟨τ,rfl⟩:=h
 rw [List.getElem?_append_left (List.getElem?_eq_some_iff.1 hb).1];exact hb
theorem VRel.mono {ρ ρ':Rho} (h:ρ<+:ρ') {x y:Value} (hv:VRel P ρ x y):VRel P ρ' x y:=by
 induction hv with
 |bool b=>exact .bool b
 |int k n=>exact .int k n
 |string s=>exact .string s
 |pnil=>exact .pnil
 |ptr hb=>exact .ptr (zcV h hb)
 |snil=>exact .snil
 |sl hb hn hc hs=>exact .sl (zcV h hb) hn hc hs
 |sl0=>exact .sl0
 |mnil=>exact .mnil
 |map hb=>exact .map (zcV h hb)
 |func f hs _ hs2 _ ih1 ih2=>exact .func f hs ih1 hs2 ih2
 |nilFunc=>exact .nilFunc
 |nilIface=>exact .nilIface
 |iface t _ ih=>exact .iface t ih
 |agg hs _ ho ih=>exact .agg hs ih ho
 |tuple hs _ ih=>exact .tuple hs ih
theorem VRel.undef {ρ:Rho}:VRel P ρ undef undef:= .tuple rfl (fun i x y hx=>by simp at hx)
theorem VRel.oneC_eq {ρ:Rho} {x y:Value} (h:VRel P ρ x y):zaq y=zaq x:=by cases h<;>rfl
def VL (P:Program) (ρ:Rho) (xs ys:List Value):Prop:=xs.length=ys.length∧∀(i:Nat) x y,xs[i]? =some x→ys[i]? =some y→VRel P ρ x y
theorem VL.mono {ρ ρ':Rho} (h:ρ<+:ρ') {xs ys:List Value} (hv:VL P ρ xs ys):VL P ρ' xs ys:=⟨hv.1,fun i x y hx hy=>(hv.2 i x y hx hy).mono h⟩
theorem VL.nil {ρ:Rho}:VL P ρ [] []:=⟨rfl,fun i x y hx=>by simp at hx⟩
theorem VL.cons {ρ:Rho} {x y:Value} {xs ys:List Value} (h:VRel P ρ x y) (t:VL P ρ xs ys):VL P ρ (x::xs) (y::ys):=
 ⟨by simp [t.1],fun i a b ha hb=>by
  cases i with
  |zero=>simp at ha hb;subst ha;subst hb;exact h
  |succ i=>simp at ha hb;exact t.2 i a b ha hb⟩
theorem VL.append {ρ:Rho} {xs ys xs' ys':List Value} (h:VL P ρ xs ys) (t:VL P ρ xs' ys'):VL P ρ (xs++xs') (ys++ys'):=
 ⟨by simp [h.1,t.1],fun i a b ha hb=>by
  rcases Nat.lt_or_ge i xs.length with hi|hi
  ·rw [List.getElem?_append_left hi] at ha
   rw [List.getElem?_append_left (h.1 ▸ hi)] at hb
   exact h.2 i a b ha hb
  ·rw [List.getElem?_append_right hi] at ha
   rw [List.getElem?_append_right (h.1 ▸ hi),←h.1] at hb
   exact t.2 _ a b ha hb⟩
theorem VL.take {ρ:Rho} {xs ys:List Value} (h:VL P ρ xs ys) (n:Nat):VL P ρ (xs.take n) (ys.take n):=
 ⟨by simp [h.1],fun i a b ha hb=>by
  rw [List.getElem?_take] at ha hb
  split at ha
  ·rename_i hi;rw [if_pos hi] at hb;exact h.2 i a b ha hb
  ·cases ha⟩
theorem VL.drop {ρ:Rho} {xs ys:List Value} (h:VL P ρ xs ys) (n:Nat):VL P ρ (xs.drop n) (ys.drop n):=
 ⟨by simp [h.1],fun i a b ha hb=>by
  rw [List.getElem?_drop] at ha hb
  exact h.2 _ a b ha hb⟩
theorem VL.get {ρ:Rho} {xs ys:List Value} (h:VL P ρ xs ys) {i:Nat} {x:Value} (hx:xs[i]? =some x):∃y,ys[i]? =some y∧VRel P ρ x y:=by
 have hi:i< ys.length:=h.1 ▸ (List.getElem?_eq_some_iff.1 hx).1
 exact ⟨ys[i],List.getElem?_eq_getElem hi,h.2 i x _ hx (List.getElem?_eq_getElem hi)⟩
theorem VL.arr {ρ:Rho} {xs ys:Array Value} (hs:xs.size=ys.size) (h:∀(i:Nat) x y,xs[i]? =some x→ys[i]? =some y→VRel P ρ x y):VL P ρ xs.toList ys.toList:=
 ⟨by simpa using hs,fun i x y hx hy=>h i x y (by simpa using hx) (by simpa using hy)⟩
def zbK (P:Program) (ρ:Rho) (x y:MapEntry):Prop:=VRel P ρ x.key y.key∧VRel P ρ x.val y.val∧x.born=y.born
def zco (P:Program) (ρ:Rho) (w:World) (L:Loc):Blk→Prop
 | .dead=>True
 | .cells c t rw=>L.elem=t∧∃(arr:Array Value) (tw:TypeId) (fr:Nat×Nat),w.heap[L.block]? =some (.cells arr tw fr)∧arr.size=L.size∧L.off+c.length≤arr.size∧
  (∀(i:Nat) x,c[i]? =some x→zaq x=true∧∃y,arr[L.off+i]? =some y∧VRel P ρ x y)∧(rw=true→∀i,i< arr.size→(decide (fr.1≤i) && decide (i< fr.2))=false)
 | .map es clock=>∃es':Array MapEntry,w.heap[L.block]? =some (.map es' clock)∧es'.size=es.length∧∀(i:Nat) x y,es[i]? =some x→es'[i]? =some y→zbK P ρ x y
 | .iter o=>w.heap[L.block]? =some o
def Blk.own:Blk→Bool
 | .dead=>false
 | .cells _ _ rw=>rw
 | .map _ _=>true
 | .iter _=>false
def Blk.live:Blk→Bool
 | .dead=>false
 |_=>true
structure HRel (P:Program) (B:Fz) (w0:World) (ρ:Rho) (H:Heap) (w:World):Prop where
 below:Bel B w0 w
 base:∀k,B.fr k∨B.gh k→k< w.heap.size
 len:ρ.length=H.length
 blk:∀(b:Nat) L,ρ[b]? =some L→zco P ρ w L (H.get b)
 own:∀(b:Nat) L,ρ[b]? =some L→(H.get b).own=true→¬B.fr L.block
 ghost:∀(b:Nat) L,ρ[b]? =some L→(H.get b).live=true→¬B.gh L.block
 inj:∀(b b':Nat) L L',ρ[b]? =some L→ρ[b']? =some L'→b≠b'→(H.get b).own=true→(H.get b').live=true→L.block≠L'.block
theorem Heap.get_eq (H:Heap) (b:Nat):H.get b=(H[b]?).getD .dead:=by
 induction H generalizing b with
 |nil=>simp [Heap.get]
 |cons x H ih=>cases b<;>simp [Heap.get,ih]
theorem Heap.length_put (H:Heap) (b:Nat) (x:Blk):(H.put b x).length=H.length:=by
 induction H generalizing b with
 |nil=>simp [Heap.put]
 |cons y H ih=>cases b<;>simp [Heap.put,ih]
theorem Heap.get_put (H:Heap) (b b':Nat) (x:Blk):(H.put b x).get b'=if b'=b∧b< H.next then x else H.get b':=by
 induction H generalizing b b' with
 |nil=>simp [Heap.put,Heap.get,Heap.next]
 |cons y H ih=>
  cases b with
  |zero=>cases b'<;>simp [Heap.put,Heap.get,Heap.next]
  |succ b=>
   cases b' with
   |zero=>simp [Heap.put,Heap.get]
   |succ b'=>
    simp only [Heap.put,Heap.get,ih]
    by_cases hc:b'=b∧b< Heap.next H
    ·rw [if_pos hc,if_pos ⟨by omega,by have:=hc.2;simp only [Heap.next,List.length_cons] at this⊢;omega⟩]
    ·rw [if_neg hc,if_neg (fun h=>hc ⟨by omega,by have:=h.2;simp only [Heap.next,List.length_cons] at this⊢;omega⟩)]
theorem Heap.get_push (H:Heap) (b:Nat) (x:Blk):(H.push x).get b=if b=H.next then x else H.get b:=by
 simp only [Heap.get_eq,Heap.push,Heap.next]
 rcases Nat.lt_trichotomy b H.length with h|h|h
 ·rw [List.getElem?_append_left h,if_neg (by omega)]
 ·subst h;simp
 ·rw [List.getElem?_append_right (by omega),if_neg (by omega),List.getElem?_eq_none (l:=H) (by omega)]
  simp only [Option.getD_none]
  rw [List.getElem?_eq_none (by simp;omega)];rfl
theorem Heap.lt_of_live {H:Heap} {b:Nat} (h:(H.get b).live=true):b< H.next:=by
 rw [Heap.get_eq] at h
 rcases Nat.lt_or_ge b H.length with h'|h'
 ·exact h'
 ·rw [List.getElem?_eq_none h'] at h;simp [Blk.live] at h
theorem Heap.next_put (H:Heap) (b:Nat) (x:Blk):(H.put b x).next=H.next:=Heap.length_put H b x
theorem Heap.next_push (H:Heap) (x:Blk):(H.push x).next=H.next+1:=by simp [Heap.push,Heap.next]
theorem zbi {b:Blk} (h:b.own=true):b.live=true:=by cases b<;>simp_all [Blk.own,Blk.live]
theorem zco.mono {ρ ρ':Rho} (h:ρ<+:ρ') {w w':World} {L:Loc} {x:Blk} (hw:x.live=true→w'.heap[L.block]? =w.heap[L.block]?) (hx:zco P ρ w L x):zco P ρ' w' L x:=by
 cases x with
 |dead=>trivial
 |cells c t rw=>
  obtain ⟨h1,arr,tw,fr,h2,h3,h4,h5,h6⟩:=hx
  exact ⟨h1,arr,tw,fr,(hw rfl).trans h2,h3,h4,fun i x hx=>⟨(h5 i x hx).1,let ⟨y,hy,hv⟩:=(h5 i x hx).2;⟨y,hy,hv.mono h⟩⟩,h6⟩
 |map es clock=>
  obtain ⟨es',h2,h3,h4⟩:=hx
  exact ⟨es',(hw rfl).trans h2,h3,fun i x y hx hy=>⟨(h4 i x y hx hy).1.mono h,(h4 i x y hx hy).2.1.mono h,(h4 i x y hx hy).2.2⟩⟩
 |iter o=>exact (hw rfl).trans hx
theorem zco.lt {ρ:Rho} {w:World} {L:Loc} {x:Blk} (hx:zco P ρ w L x) (hl:x.live=true):L.block< w.heap.size:=by
 cases x with
 |dead=>cases hl
 |cells c t rw=>obtain ⟨_,arr,tw,fr,h2,_⟩:=hx;exact (Array.getElem?_eq_some_iff.1 h2).1
 |map es clock=>obtain ⟨es',h2,_⟩:=hx;exact (Array.getElem?_eq_some_iff.1 h2).1
 |iter o=>exact (Array.getElem?_eq_some_iff.1 (show w.heap[L.block]? =some o from hx)).1
section
variable {B:Fz} {w0 w:World} {ρ:Rho} {H:Heap}
theorem HRel.world {w':World} (h:HRel P B w0 ρ H w) (hb:Bel B w w') (hw:∀i,i< w.heap.size→w'.heap[i]? =w.heap[i]?):HRel P B w0 ρ H w':=
 ⟨h.below.trans hb,fun k hk=>Nat.lt_of_lt_of_le (h.base k hk) hb.size,h.len,fun b L hL=>(h.blk b L hL).mono (List.prefix_refl _) (fun hl=>hw _ ((h.blk b L hL).lt hl)),h.own,h.ghost,h.inj⟩
theorem HRel.drew (h:HRel P B w0 ρ H w):HRel P B w0 ρ H w.drew:=h.world ((Bel.refl B w).drew) (fun _ _=>rfl)
theorem HRel.push_at (h:HRel P B w0 ρ H w) {x:Blk} {L:Loc} {w':World} (hB:¬B.fr L.block) (hG:¬B.gh L.block) (hfree:∀(b:Nat) L',ρ[b]? =some L'→(H.get b).live=true→L'.block≠L.block)
  (hb:Bel B w w') (hw:∀i,i≠L.block→i< w.heap.size→w'.heap[i]? =w.heap[i]?) (hx:zco P (ρ++ [L]) w' L x):HRel P B w0 (ρ++ [L]) (H.push x) w':=by
 have hpre:ρ<+:ρ++ [L]:=List.prefix_append _ _
 have hget:∀b L',(ρ++ [L])[b]? =some L'→(b=H.next∧L'=L)∨(b< H.next∧ρ[b]? =some L'):=by
  intro b L' hb
  rcases Nat.lt_or_ge b ρ.length with hlt|hge
  ·rw [List.getElem?_append_left hlt] at hb;exact .inr ⟨by rw [Heap.next,←h.len];exact hlt,hb⟩
  ·rw [List.getElem?_append_right hge] at hb
   have:b - ρ.length=0:=by
    rcases Nat.eq_zero_or_pos (b - ρ.length) with h0|h0
    ·exact h0
    ·rw [List.getElem?_eq_none (by simp;omega)] at hb;cases hb
   rw [this] at hb;simp at hb
   exact .inl ⟨by rw [Heap.next,←h.len];omega,hb.symm⟩
 refine ⟨h.below.trans hb,fun k hk=>Nat.lt_of_lt_of_le (h.base k hk) hb.size,by simp [Heap.push,h.len],?_,?_,?_,?_⟩
 ·intro b L' hb
  rcases hget b L' hb with ⟨rfl,rfl⟩|⟨hlt,hb'⟩
  ·rw [Heap.get_push,if_pos rfl];exact hx
  ·rw [Heap.get_push,if_neg (by omega)]
   exact (h.blk b L' hb').mono hpre (fun hl=>hw _ (hfree b L' hb' hl) ((h.blk b L' hb').lt hl))
 ·intro b L' hb ho
  rcases hget b L' hb with ⟨rfl,rfl⟩|⟨hlt,hb'⟩
  ·exact hB
  ·rw [Heap.get_push,if_neg (by omega)] at ho;exact h.own b L' hb' ho
 ·intro b L' hb hl
  rcases hget b L' hb with ⟨rfl,rfl⟩|⟨hlt,hb'⟩
  ·exact hG
  ·rw [Heap.get_push,if_neg (by omega)] at hl;exact h.ghost b L' hb' hl
 ·intro b b' L1 L2 h1 h2 hne ho hl
  rcases hget b L1 h1 with ⟨rfl,rfl⟩|⟨hlt,hb⟩<;>rcases hget b' L2 h2 with ⟨rfl,rfl⟩|⟨hlt',hb'⟩
  ·exact absurd rfl hne
  ·rw [Heap.get_push,if_neg (by omega)] at hl
   exact (hfree b' L2 hb' hl).symm
  ·rw [Heap.get_push,if_neg (by omega)] at ho
   exact hfree b L1 hb (zbi ho)
  ·rw [Heap.get_push,if_neg (by omega)] at ho hl
   exact h.inj b b' L1 L2 hb hb' hne ho hl
theorem HRel.push (h:HRel P B w0 ρ H w) {x:Blk} {o:Obj} {L:Loc} (hL:L.block=w.heap.size) (hx:zco P (ρ++ [L]) (w.alloc o) L x):
  HRel P B w0 (ρ++ [L]) (H.push x) (w.alloc o):=
 h.push_at (fun hf=>by have:=h.base _ (.inl hf);omega) (fun hf=>by have:=h.base _ (.inr hf);omega) (fun b L' hb hl e=>by have:=(h.blk b L' hb).lt hl;omega) ((Bel.refl B w).alloc h.base o) (fun i _ hi=>Below.heap_alloc _ _ _ hi) hx
theorem HRel.put (h:HRel P B w0 ρ H w) {b:Nat} {x:Blk} {w':World} (ho:(H.get b).own=true) {L:Loc} (hL:ρ[b]? =some L) (hx:zco P ρ w' L x)
  (hb:Bel B w w') (hw:∀i,i≠L.block→w'.heap[i]? =w.heap[i]?):HRel P B w0 ρ (H.put b x) w':=by
 have hlt:b< H.next:=Heap.lt_of_live (zbi ho)
 have hg:∀b',(H.put b x).get b'=if b'=b then x else H.get b':=fun b'=>by rw [Heap.get_put];simp [hlt]
 refine ⟨h.below.trans hb,fun k hk=>Nat.lt_of_lt_of_le (h.base k hk) hb.size,by rw [h.len,Heap.length_put],?_,?_,?_,?_⟩
 ·intro b' L' hb'
  rw [hg]
  split
  ·rename_i he;subst he;rw [hL] at hb';cases hb';exact hx
  ·rename_i hne
   exact (h.blk b' L' hb').mono (List.prefix_refl _) (fun hl=>hw _ (fun e=>h.inj b b' L L' hL hb' (Ne.symm hne) ho hl e.symm))
 ·intro b' L' hb' ho'
  rw [hg] at ho'
  split at ho'
  ·rename_i he;subst he;rw [hL] at hb';cases hb';exact h.own b' L hL ho
  ·exact h.own b' L' hb' ho'
 ·intro b' L' hb' hl'
  rw [hg] at hl'
  split at hl'
  ·rename_i he;subst he;rw [hL] at hb';cases hb';exact h.ghost b' L hL (zbi ho)
  ·exact h.ghost b' L' hb' hl'
 ·intro b1 b2 L1 L2 h1 h2 hne ho1 hl2
  rw [hg] at ho1 hl2
  have ho1':(H.get b1).own=true:=by
   split at ho1
   ·rename_i he;rw [he];exact ho
   ·exact ho1
  have hl2':(H.get b2).live=true:=by
   split at hl2
   ·rename_i he;rw [he];exact zbi ho
   ·exact hl2
  exact h.inj b1 b2 L1 L2 h1 h2 hne ho1' hl2'
theorem HRel.kill (h:HRel P B w0 ρ H w) (b:Nat):HRel P B w0 ρ (H.put b .dead) w:=by
 refine ⟨h.below,h.base,by rw [h.len,Heap.length_put],?_,?_,?_,?_⟩
 ·intro b' L' hb'
  rw [Heap.get_put];split
  ·trivial
  ·exact h.blk b' L' hb'
 ·intro b' L' hb' ho'
  rw [Heap.get_put] at ho';split at ho'
  ·cases ho'
  ·exact h.own b' L' hb' ho'
 ·intro b' L' hb' hl'
  rw [Heap.get_put] at hl';split at hl'
  ·cases hl'
  ·exact h.ghost b' L' hb' hl'
 ·intro b1 b2 L1 L2 h1 h2 hne ho1 hl2
  rw [Heap.get_put] at ho1 hl2
  split at ho1
  ·cases ho1
  ·split at hl2
   ·cases hl2
   ·exact h.inj b1 b2 L1 L2 h1 h2 hne ho1 hl2
end
end
def zav:TypeDesc→Bool
 | .struct _| .array _ _=>true
 |_=>false
theorem oneC_eq (v:Value):v.oneCell'=zaq v:=by cases v<;>rfl
section
variable {P:Program} {B:Fz} {w0 w:World} {ρ:Rho} {H:Heap}
def Gives (P:Program) (B:Fz) (w0:World) (ρ:Rho) (s:Sem Value) (w:World) (v:Value) (H':Heap):Prop:=
 ∃ρ' v' w',s.run P w= .ok v' w'∧ρ<+:ρ'∧VRel P ρ' v v'∧HRel P B w0 ρ' H' w'
def zcD (P:Program) (B:Fz) (w0:World) (ρ:Rho) (s:Sem Unit) (w:World) (H':Heap):Prop:=
 ∃ρ' w',s.run P w= .ok () w'∧ρ<+:ρ'∧HRel P B w0 ρ' H' w'
theorem Gives.same {s:Sem Value} {v v':Value} (h:HRel P B w0 ρ H w) (hr:s.run P w= .ok v' w) (hv:VRel P ρ v v'):Gives P B w0 ρ s w v H:=
 ⟨ρ,v',w,hr,List.prefix_refl _,hv,h⟩
theorem VRel.pointer_inv {x':Value} {a:Addr} (h:VRel P ρ (.pointer (some a)) x'):∃L,a.spot=none∧ρ[a.block]? =some L∧x'= .pointer (some ⟨L.block,L.off+a.off,none⟩):=by
 cases h with|ptr hb=>exact ⟨_,rfl,hb,rfl⟩
theorem za3 {b:Nat} {c:List Value} {t:TypeId} {rw:Bool} {L:Loc} (h:HRel P B w0 ρ H w) (hg:H.get b= .cells c t rw) (hL:ρ[b]? =some L):
  L.elem=t∧∃(arr:Array Value) (tw:TypeId) (fr:Nat×Nat),w.heap[L.block]? =some (.cells arr tw fr)∧arr.size=L.size∧L.off+c.length≤arr.size∧
   (∀(i:Nat) x,c[i]? =some x→zaq x=true∧∃y,arr[L.off+i]? =some y∧VRel P ρ x y)∧(rw=true→∀i,i< arr.size→(decide (fr.1≤i) && decide (i< fr.2))=false):=by
 have:=h.blk b L hL
 rw [hg] at this
 exact this
theorem zfk {b i:Nat} {c:List Value} {t:TypeId} {rw:Bool} {L:Loc} {x:Value} (h:HRel P B w0 ρ H w) (hg:H.get b= .cells c t rw) (hL:ρ[b]? =some L) (hx:c[i]? =some x):
  zaq x=true∧∃y,w.cell? ⟨L.block,L.off+i,none⟩=some y∧VRel P ρ x y:=by
 obtain ⟨_,arr,tw,fr,h2,_,_,h5,_⟩:=za3 h hg hL
 obtain ⟨ho,y,hy,hv⟩:=h5 i x hx
 exact ⟨ho,y,by simp [World.cell?,h2,hy],hv⟩
theorem rd_some {c l:List Value} {off n:Nat} (h:rd c off n=some l):off+n≤c.length∧l=(c.drop off).take n:=by
 unfold rd at h;split at h
 ·exact ⟨by assumption,by simpa using h.symm⟩
 ·cases h
theorem zbs {c l:List Value} {off n:Nat} (h:rd c off n=some l):l.length=n:=by
 obtain ⟨h1,rfl⟩:=rd_some h;simp;omega
theorem zdI {b off n:Nat} {c l:List Value} {t:TypeId} {rw:Bool} {L:Loc} (h:HRel P B w0 ρ H w) (hg:H.get b= .cells c t rw) (hL:ρ[b]? =some L) (hr:rd c off n=some l):
  ∃l':List Value,VL P ρ l l'∧l'.length=n∧(∀x∈l,zaq x=true)∧(∀x∈l',zaq x=true)∧∀(j:Nat) v,l'[j]? =some v→w.cell? ⟨L.block,L.off+off+j,none⟩=some v:=by
 obtain ⟨_,arr,tw,fr,h2,hsz,hle,h5,_⟩:=za3 h hg hL
 obtain ⟨h1,rfl⟩:=rd_some hr
 have hget:∀(i:Nat) x,((c.drop off).take n)[i]? =some x→i< n∧c[off+i]? =some x:=by
  intro i x hx
  rw [List.getElem?_take] at hx
  split at hx
  ·rw [List.getElem?_drop] at hx;exact ⟨by assumption,hx⟩
  ·cases hx
 have hlen:((arr.toList.drop (L.off+off)).take n).length=n:=by
  simp only [List.length_take,List.length_drop,Array.length_toList];omega
 refine ⟨(arr.toList.drop (L.off+off)).take n,⟨by rw [hlen];simp;omega,?_⟩,hlen,?_,?_,?_⟩
 ·intro i x y hx hy
  obtain ⟨hin,hx⟩:=hget i x hx
  rw [List.getElem?_take,if_pos hin,List.getElem?_drop] at hy
  obtain ⟨_,y',hy',hv⟩:=h5 _ x hx
  have:arr.toList[L.off+off+i]? =arr[L.off+(off+i)]? :=by simp [Nat.add_assoc]
  rw [this,hy'] at hy;cases hy;exact hv
 ·intro x hx
  obtain ⟨i,hi⟩:=List.mem_iff_getElem?.1 hx
  exact (h5 _ x (hget i x hi).2).1
 ·intro y hy
  obtain ⟨i,hi⟩:=List.mem_iff_getElem?.1 hy
  have hin:i< n:=by have:=(List.getElem?_eq_some_iff.1 hi).1;omega
  have hc:off+i< c.length:=by omega
  obtain ⟨ho,y',hy',hv⟩:=h5 (off+i) c[off+i] (List.getElem?_eq_getElem hc)
  rw [List.getElem?_take,if_pos hin,List.getElem?_drop] at hi
  have:arr.toList[L.off+off+i]? =arr[L.off+(off+i)]? :=by simp [Nat.add_assoc]
  rw [this,hy'] at hi;cases hi
  rw [hv.oneC_eq];exact ho
 ·intro j v hv
  rw [List.getElem?_take] at hv
  split at hv
  ·rw [List.getElem?_drop] at hv
   simp only [World.cell?,h2]
   simpa using hv
  ·cases hv
theorem zeW {t:TypeId} {d:TypeDesc} (hd:P.underlying t=some d) (hna:zav d=false)
  {x x' v:Value} (h:HRel P B w0 ρ H w) (hx:VRel P ρ x x') (hk:kLd H x=some v):∃b v',x'= .pointer (some b)∧(loadVar t b).run P w= .ok v' w∧VRel P ρ v v':=by
 unfold kLd at hk
 split at hk
 ·rename_i a
  obtain ⟨L,hs,hL,rfl⟩:=hx.pointer_inv
  split at hk
  ·rename_i c t' rw hg
   obtain ⟨_,y,hy,hv⟩:=zfk h hg hL hk
   refine ⟨_,y,rfl,?_,hv⟩
   cases d<;>simp_all [zav,loadVar,isAgg,run_underlying hd]
  ·cases hk
 ·cases hk
theorem zjS {t:TypeId} {d:TypeDesc} (hd:P.underlying t=some d) (hna:zav d=false)
  {x x' v:Value} (h:HRel P B w0 ρ H w) (hx:VRel P ρ x x') (hk:kLd H x=some v):Gives P B w0 ρ (Instr.loadAt t x') w v H:=by
 obtain ⟨b,v',rfl,hr,hv⟩:=zeW hd hna h hx hk
 exact Gives.same h (by simp [Instr.loadAt,Instr.sureAddr,hr]) hv
theorem zcT {t:TypeId} {d:TypeDesc} {i:TypeInfo} (hd:P.underlying t=some d) (ha:zav d=true) (hi:P.info? t=some i)
  (a:Addr) (l:List Value) (hl:l.length=i.size) (h:∀(j:Nat) v,l[j]? =some v→w.cell? (a.add j)=some v):(loadVar t a).run P w= .ok (.agg l.toArray) w:=by
 have:=run_loadCells_list (P:=P) w a l h
 rw [hl] at this
 cases d<;>simp_all [zav,loadVar,isAgg,run_underlying hd,sizeOf,typeInfo]
theorem zdJ {t:TypeId} {d:TypeDesc} {i:TypeInfo} (hd:P.underlying t=some d) (ha:zav d=true) (hi:P.info? t=some i)
  {x x' v:Value} (h:HRel P B w0 ρ H w) (hx:VRel P ρ x x') (hk:zbq H i.size x=some v):∃b v',x'= .pointer (some b)∧(loadVar t b).run P w= .ok v' w∧VRel P ρ v v':=by
 unfold zbq at hk
 split at hk
 ·rename_i a
  obtain ⟨L,hs,hL,rfl⟩:=hx.pointer_inv
  split at hk
  ·rename_i c t' rw hg
   cases hr:rd c a.off i.size with
   |none=>simp [hr] at hk
   |some l=>
    simp [hr] at hk;subst hk
    obtain ⟨l',hv,hl',ho,_,hc⟩:=zdI h hg hL hr
    have:=zcT (w:=w) hd ha hi ⟨L.block,L.off+a.off,none⟩ l' hl' (fun j v hj=>by rw [Addr.add_lit];exact hc j v hj)
    exact ⟨_,.agg l'.toArray,rfl,this,.agg (by simp [hv.1]) (fun j x y hx hy=>hv.2 j x y (by simpa using hx) (by simpa using hy)) (fun j x hx=>ho x (List.mem_of_getElem? (by simpa using hx)))⟩
  ·cases hk
 ·cases hk
theorem ziD {t:TypeId} {d:TypeDesc} {i:TypeInfo} (hd:P.underlying t=some d) (ha:zav d=true) (hi:P.info? t=some i)
  {x x' v:Value} (h:HRel P B w0 ρ H w) (hx:VRel P ρ x x') (hk:zbq H i.size x=some v):Gives P B w0 ρ (Instr.loadAt t x') w v H:=by
 obtain ⟨b,v',rfl,hr,hv⟩:=zdJ hd ha hi h hx hk
 exact Gives.same h (by simp [Instr.loadAt,Instr.sureAddr,hr]) hv
theorem zbB (g o:Nat) (t:TypeId) (fr:Nat×Nat):∀(vs:List Value) (i:Nat) (cur:Array Value) (w:World),w.heap[g]? =some (.cells cur t fr)→o+i+vs.length≤cur.size→
  (∀v∈vs,zaq v=true)→(∀j,j< cur.size→(decide (fr.1≤j) && decide (j< fr.2))=false)→
  (storeCells ⟨g,o,none⟩ vs i).run P w= .ok () (w.setRow g (cur.toList.take (o+i)++vs++cur.toList.drop (o+i+vs.length)).toArray)
 | [],i,cur,w,hg,_,_,_=>by
   simp only [storeCells,List.append_nil,List.length_nil,Nat.add_zero,List.take_append_drop,Array.toArray_toList]
   rw [setRow_self w g cur t fr hg]
   rfl
 |v::rest,i,cur,w,hg,hl,h1,hf=>by
  have hi:o+i< cur.size:=by simp at hl;omega
  have hadd:(⟨g,o,none⟩:Addr).add i=⟨g,o+i,none⟩:=by unfold Addr.add;split<;>simp_all
  have hcell:w.cell? ⟨g,o+i,none⟩=some cur[o+i]:=by simp [World.cell?,hg,hi]
  have hfro:w.frozen? ⟨g,o+i,none⟩=false:=by
   obtain ⟨lo,hi'⟩:=fr
   simpa [World.frozen?,hg] using hf (o+i) hi
  have hst:(store ((⟨g,o,none⟩:Addr).add i) v).run P w= .ok () (w.setRow g (cur.setIfInBounds (o+i) v)):=by
   rw [hadd,run_store P w _ v _ (by rw [oneC_eq];exact h1 v (by simp)),hcell]
   simp [hfro,setCell_eq_setRow w g (o+i) cur t fr v hg]
  have ih:=zbB g o t fr rest (i+1) (cur.setIfInBounds (o+i) v) (w.setRow g (cur.setIfInBounds (o+i) v)) (setRow_heap w g cur _ t _ hg) (by simp at hl⊢;omega) (fun x hx=>h1 x (by simp [hx])) (by simpa using hf)
  simp only [storeCells,Sem.run_bind,hst,Result.andThen_ok,ih,setRow_setRow]
  congr 3
  have e:=list_seg_step cur.toList (o+i) v rest (by simp at hl⊢;omega)
  simpa [Array.toList_setIfInBounds,Nat.add_assoc] using e
theorem Bel.setRow {B:Fz} {w:World} {g:Nat} (hg:¬B.fr g) (hg2:¬B.gh g) (cs:Array Value):Bel B w (w.setRow g cs):=
 ⟨rfl,rfl,rfl,by simp,fun k hk=>setRow_other w g k cs (fun e=>by subst e;exact hk.elim hg hg2)⟩
theorem zdv {c vs:List Value} {off:Nat} (h:off+vs.length≤c.length):(wr c off vs).length=c.length:=by
 simp [wr];omega
theorem zdK {c vs:List Value} {off:Nat} (h:off+vs.length≤c.length) (i:Nat):(wr c off vs)[i]? =if off≤i∧i< off+vs.length then vs[i - off]? else c[i]? :=by
 unfold wr
 rcases Nat.lt_or_ge i off with h1|h1
 ·rw [if_neg (by omega),List.append_assoc,List.getElem?_append_left (by simp;omega),List.getElem?_take,if_pos h1]
 ·rcases Nat.lt_or_ge i (off+vs.length) with h2|h2
  ·rw [if_pos ⟨h1,h2⟩,List.getElem?_append_left (by simp;omega),List.getElem?_append_right (by simp;omega)]
   congr 1;simp;omega
  ·rw [if_neg (by omega),List.getElem?_append_right (by simp;omega),List.getElem?_drop]
   congr 1;simp;omega
theorem zbZ {b off:Nat} {c vs vs':List Value} {t:TypeId} {L:Loc} (h:HRel P B w0 ρ H w) (hg:H.get b= .cells c t true) (hL:ρ[b]? =some L)
  (hfit:off+vs.length≤c.length) (hv:VL P ρ vs vs') (ho:∀x∈vs,zaq x=true):
  ∃w',(storeCells ⟨L.block,L.off+off,none⟩ vs').run P w= .ok () w'∧HRel P B w0 ρ (H.put b (.cells (wr c off vs) t true)) w':=by
 obtain ⟨he,arr,tw,fr,h2,hsz,hle,h5,h6⟩:=za3 h hg hL
 have ho':∀y∈vs',zaq y=true:=by
  intro y hy
  obtain ⟨i,hi⟩:=List.mem_iff_getElem?.1 hy
  have hlt:i< vs.length:=by rw [hv.1];exact (List.getElem?_eq_some_iff.1 hi).1
  rw [(hv.2 i _ y (List.getElem?_eq_getElem hlt) hi).oneC_eq];exact ho _ (List.getElem_mem hlt)
 have hrun:=zbB (P:=P) L.block (L.off+off) tw fr vs' 0 arr w h2 (by rw [←hv.1];omega) ho' (h6 rfl)
 refine ⟨_,hrun,h.put (b:=b) (by rw [hg];rfl) hL ?_ (Bel.setRow (h.own b L hL (by rw [hg];rfl)) (h.ghost b L hL (by rw [hg];rfl)) _) (fun i hi=>setRow_other w _ _ _ hi)⟩
 have hsz':(arr.toList.take (L.off+off+0)++vs'++arr.toList.drop (L.off+off+0+vs'.length)).length=arr.size:=by
  simp only [List.length_append,List.length_take,List.length_drop,Array.length_toList,←hv.1];omega
 refine ⟨he,_,tw,fr,setRow_heap w _ arr _ tw fr h2,by simpa [hsz] using hsz',by rw [zdv hfit];simpa using (by rw [←hsz'] at hle;simpa using hle),?_,fun _ i hi=>h6 rfl i (by simpa [hsz'] using (by rw [←hsz'];simpa using hi))⟩
 intro i x hx
 have hwr:=zdK (c:=arr.toList) (vs:=vs') (off:=L.off+off) (by rw [←hv.1];simp;omega) (L.off+i)
 rw [zdK hfit] at hx
 have hy:((arr.toList.take (L.off+off+0)++vs'++arr.toList.drop (L.off+off+0+vs'.length)).toArray)[L.off+i]? =(wr arr.toList (L.off+off) vs')[L.off+i]? :=by simp [wr]
 rw [hy,hwr]
 split at hx
 ·rename_i hin
  rw [if_pos (by rw [←hv.1];omega)]
  have hlt:i - off< vs'.length:=by rw [←hv.1];omega
  refine ⟨ho x (List.mem_of_getElem? hx),vs'[i - off],?_,hv.2 (i - off) x _ hx (List.getElem?_eq_getElem hlt)⟩
  rw [←List.getElem?_eq_getElem hlt];congr 1;omega
 ·rename_i hin
  rw [if_neg (by rw [←hv.1];omega)]
  obtain ⟨ho1,y,hy,hvv⟩:=h5 i x hx
  exact ⟨ho1,y,by simpa using hy,hvv⟩
theorem ziE {c:List Value} {off:Nat} {v:Value} (h:off< c.length):wr c off [v]=c.set off v:=by
 apply List.ext_getElem?
 intro i
 rw [zdK (by simp;omega),List.getElem?_set]
 by_cases hi:off=i
 ·subst hi;simp [h]
 ·rw [if_neg (by simp;omega),if_neg hi]
theorem zjT {t:TypeId} {i:TypeInfo} (hi:P.info? t=some i) (h1:i.size=1) {x x' y y':Value} (h:HRel P B w0 ρ H w) (hx:VRel P ρ x x') (hy:VRel P ρ y y') {H':Heap}
  (hk:kSt H x y=some H'):zcD P B w0 ρ (Instr.storeAt t x' y') w H':=by
 unfold kSt at hk
 split at hk
 ·rename_i a
  obtain ⟨L,hs,hL,rfl⟩:=hx.pointer_inv
  split at hk
  ·rename_i c t' hg
   split at hk
   ·rename_i hc
    simp only [Bool.and_eq_true,decide_eq_true_eq] at hc
    cases hk
    obtain ⟨w',hrun,hH⟩:=zbZ (vs:= [y]) (vs':= [y']) h hg hL (off:=a.off) (by simp;omega) (VL.cons hy VL.nil) (by simpa using hc.2)
    have ho:zaq y'=true:=by rw [hy.oneC_eq];exact hc.2
    have hcells:y'.cells=#[y']:=by cases y'<;>simp_all [Value.cells,zaq]
    refine ⟨ρ,w',?_,List.prefix_refl _,by rw [←ziE hc.1];exact hH⟩
    simp [Instr.storeAt,Instr.sureAddr,storeVar,sizeOf,typeInfo,hi,h1,hcells,hrun]
   ·cases hk
  ·cases hk
 ·cases hk
theorem ziF {t:TypeId} {i:TypeInfo} (hi:P.info? t=some i) {x x' y y':Value} (h:HRel P B w0 ρ H w) (hx:VRel P ρ x x') (hy:VRel P ρ y y') {H':Heap}
  (hk:zeU H i.size x y=some H'):zcD P B w0 ρ (Instr.storeAt t x' y') w H':=by
 unfold zeU at hk
 split at hk
 ·rename_i a vs
  obtain ⟨L,hs,hL,rfl⟩:=hx.pointer_inv
  split at hk
  ·rename_i c t' hg
   split at hk
   ·rename_i hc
    simp only [Bool.and_eq_true,decide_eq_true_eq,beq_iff_eq] at hc
    cases hk
    cases hy with
    |agg hsz hv ho=>
     rename_i ys
     obtain ⟨w',hrun,hH⟩:=zbZ (vs:=vs.toList) (vs':=ys.toList) h hg hL (off:=a.off) (by simp;omega) (VL.arr hsz hv)
      (fun x hx=>by obtain ⟨j,hj⟩:=List.mem_iff_getElem?.1 hx;exact ho j x (by simpa using hj))
     refine ⟨ρ,w',?_,List.prefix_refl _,hH⟩
     have:ys.size=i.size:=by omega
     simp [Instr.storeAt,Instr.sureAddr,storeVar,sizeOf,typeInfo,hi,Value.cells,this,hrun]
   ·cases hk
  ·cases hk
 ·cases hk
theorem zfl (h:HRel P B w0 ρ H w) {l l':List Value} {t t2:TypeId} {rw:Bool} (hv:VL P ρ l l') (ho:∀x∈l,zaq x=true) (more:List Value):
  HRel P B w0 (ρ++ [⟨w.heap.size,0,l'.length+more.length,t⟩]) (H.push (.cells l t rw)) (w.alloc (.cells (l'++more).toArray t2)):=by
 refine h.push rfl ⟨rfl,_,t2,(0,0),heap_alloc_new w _,by simp,by simp [hv.1],?_,fun _ i _=>by simp⟩
 intro i x hx
 obtain ⟨y,hy,hvv⟩:=hv.get hx
 refine ⟨ho x (List.mem_of_getElem? hx),y,?_,hvv.mono (List.prefix_append _ _)⟩
 have hlt:i< l'.length:=(List.getElem?_eq_some_iff.1 hy).1
 simp [List.getElem?_append_left hlt,hy]
theorem zbj (h:HRel P B w0 ρ H w) (L:Loc):(ρ++ [L])[H.next]? =some L:=by
 rw [Heap.next,←h.len];simp
theorem VRel.cellsL {v v':Value} (hv:VRel P ρ v v') (ht:zaN v=false):VL P ρ (cellsL v) (cellsL v')∧(∀x∈cellsL v,zaq x=true)∧v'.cells.toList=cellsL v':=by
 cases hv with
 |agg hs h ho=>exact ⟨VL.arr hs h,fun x hx=>by obtain ⟨j,hj⟩:=List.mem_iff_getElem?.1 hx;exact ho j x (by simpa [K.cellsL] using hj),rfl⟩
 |tuple=>cases ht
 |bool b=>exact ⟨VL.cons (.bool b) VL.nil,by simp [K.cellsL,zaq],rfl⟩
 |int k n=>exact ⟨VL.cons (.int k n) VL.nil,by simp [K.cellsL,zaq],rfl⟩
 |string s=>exact ⟨VL.cons (.string s) VL.nil,by simp [K.cellsL,zaq],rfl⟩
 |pnil=>exact ⟨VL.cons .pnil VL.nil,by simp [K.cellsL,zaq],rfl⟩
 |ptr hb=>exact ⟨VL.cons (.ptr hb) VL.nil,by simp [K.cellsL,zaq],rfl⟩
 |snil=>exact ⟨VL.cons .snil VL.nil,by simp [K.cellsL,zaq],rfl⟩
 |sl a b c d=>exact ⟨VL.cons (.sl a b c d) VL.nil,by simp [K.cellsL,zaq],rfl⟩
 |sl0=>exact ⟨VL.cons .sl0 VL.nil,by simp [K.cellsL,zaq],rfl⟩
 |mnil=>exact ⟨VL.cons .mnil VL.nil,by simp [K.cellsL,zaq],rfl⟩
 |map hb=>exact ⟨VL.cons (.map hb) VL.nil,by simp [K.cellsL,zaq],rfl⟩
 |func f a b c d=>exact ⟨VL.cons (.func f a b c d) VL.nil,by simp [K.cellsL,zaq],rfl⟩
 |nilFunc=>exact ⟨VL.cons .nilFunc VL.nil,by simp [K.cellsL,zaq],rfl⟩
 |nilIface=>exact ⟨VL.cons .nilIface VL.nil,by simp [K.cellsL,zaq],rfl⟩
 |iface t h=>exact ⟨VL.cons (.iface t h) VL.nil,by simp [K.cellsL,zaq],rfl⟩
theorem zbt (h:HRel P B w0 ρ H w) {t t2:TypeId} {l l':List Value} (hv:VL P ρ l l') (ho:∀x∈l,zaq x=true):
  ∃L,HRel P B w0 (ρ++ [L]) (H.push (.cells l t true)) (w.alloc (.cells l'.toArray t2))∧L.block=w.heap.size∧L.off=0∧L.elem=t∧L.size=l'.length:=by
 have:=zfl (rw:=true) (t:=t) (t2:=t2) h hv ho []
 simp only [List.append_nil] at this
 exact ⟨_,this,rfl,rfl,rfl,rfl⟩
theorem ziG {t t1:TypeId} {x x':Value} (h:HRel P B w0 ρ H w) (hx:VRel P ρ x x') (ht:zaN x=false):
  Gives P B w0 ρ (Instr.box t x') w (.pointer (some ⟨H.next,0,none⟩)) (H.push (.cells (cellsL x) t1 true)):=by
 obtain ⟨hv,ho,hc⟩:=hx.cellsL ht
 obtain ⟨L,hH,hb,hoff,_⟩:=zbt (t:=t1) (t2:=t) h hv ho
 refine ⟨ρ++ [L],.pointer (some ⟨w.heap.size,0,none⟩),_,?_,List.prefix_append _ _,?_,hH⟩
 ·have:x'.cells=(cellsL x').toArray:=by rw [←hc]
  simp [Instr.box,newVar,newRow,newObj,this,Sem.run]
 ·have:=VRel.ptr (P:=P) (off:=0) (zbj h L)
  rw [hb,hoff] at this;exact this
theorem zga {t t1:TypeId} {i:TypeInfo} {z:Value} (hi:P.info? t=some i) (hz:i.zero=some z) (hg:VL P [] z.cells.toList z.cells.toList) (hoz:∀x∈z.cells.toList,zaq x=true) (h:HRel P B w0 ρ H w):
  Gives P B w0 ρ (Instr.alloc t true (.tuple #[])) w (.pointer (some ⟨H.next,0,none⟩)) (H.push (.cells z.cells.toList t1 true)):=by
 obtain ⟨L,hH,hb,hoff,_⟩:=zbt (t:=t1) (t2:=t) h (hg.mono List.nil_prefix) hoz
 refine ⟨ρ++ [L],.pointer (some ⟨w.heap.size,0,none⟩),_,?_,List.prefix_append _ _,?_,hH⟩
 ·simp [Instr.alloc,zeroValue,typeInfo,hi,hz,newVar,newRow,newObj,Sem.run]
 ·have:=VRel.ptr (P:=P) (off:=0) (zbj h L)
  rw [hb,hoff] at this;exact this
end
section
variable {P:Program} {B:Fz} {w0 w:World} {ρ:Rho} {H:Heap}
theorem zeg (off:Nat):∀(l:List Value) (k:Nat) (cells:Array Value),off+k+l.length≤cells.size→
  ((l.zipIdx k).foldl (fun (cs:Array Value) (p:Value×Nat)=>cs.setIfInBounds (off+p.2) p.1) cells).toList=wr cells.toList (off+k) l
 | [],k,cells,_=>by simp [wr]
 |v::l,k,cells,h=>by
  simp only [List.zipIdx_cons,List.foldl_cons]
  have h':off+k+(l.length+1)≤cells.size:=by simpa using h
  rw [zeg off l (k+1) _ (by simp;omega)]
  have e:=list_seg_step cells.toList (off+k) v l (by simp;omega)
  simp only [wr,Array.toList_setIfInBounds,List.length_cons] at e⊢
  rw [show off+(k+1)=off+k+1 by omega]
  exact e
theorem zc8 {z:List Value} {off n:Nat} {v:Value} {ps:List (Nat×Nat×Value)} {c:List Value} (h:zaD z ((off,n,v)::ps)=some c):
  zaN v=false∧(cellsL v).length=n∧off+n≤z.length∧zaD (wr z off (cellsL v)) ps=some c:=by
 simp only [zaD] at h
 split at h
 ·rename_i hc
  simp only [Bool.and_eq_true,Bool.not_eq_true',beq_iff_eq,decide_eq_true_eq] at hc
  exact ⟨hc.1.1,hc.1.2,hc.2,h⟩
 ·cases h
theorem zcW (place:Nat→Option (Nat×Nat)):∀(ps:List (Nat×Nat×Value)) (parts:List (Nat×Value)) (z:List Value) (z':Array Value) (c:List Value),
  ps.length=parts.length→(∀(j:Nat) p q,ps[j]? =some p→parts[j]? =some q→place q.1=some (p.1,p.2.1)∧VRel P ρ p.2.2 q.2)→VL P ρ z z'.toList→(∀x∈z,zaq x=true)→
  zaD z ps=some c→∃c',Instr.fill place z' parts=some c'∧VL P ρ c c'.toList∧∀x∈c,zaq x=true
 | [],[],z,z',c,_,_,hv,ho,hk=>by
   simp [zaD] at hk;subst hk
   exact ⟨z',rfl,hv,ho⟩
 | [],_::_,_,_,_,hl,_,_,_,_=>by simp at hl
 |_::_,[],_,_,_,hl,_,_,_,_=>by simp at hl
 |(off,n,v)::ps,(i,v')::parts,z,z',c,hl,hrel,hv,ho,hk=>by
  obtain ⟨ht,hlen,hfit,hk'⟩:=zc8 hk
  obtain ⟨hp,hvv⟩:=hrel 0 _ _ rfl rfl
  simp only at hp hvv
  obtain ⟨hc,hoc,hce⟩:=hvv.cellsL ht
  have hsz:v'.cells.size=n:=by rw [←Array.length_toList,hce,←hc.1,hlen]
  have hzs:z'.size=z.length:=by rw [←Array.length_toList,hv.1]
  have e:(v'.cells.zipIdx.foldl (fun (cs:Array Value) (p:Value×Nat)=>cs.setIfInBounds (off+p.2) p.1) z').toList=wr z'.toList off (K.cellsL v'):=by
   rw [←Array.foldl_toList,Array.toList_zipIdx,hce]
   have:=zeg off (K.cellsL v') 0 z' (by rw [←hc.1,hlen];omega)
   simpa using this
  have hwl:VL P ρ (wr z off (K.cellsL v)) (wr z'.toList off (K.cellsL v')):=by
   unfold wr
   rw [hc.1]
   exact ((hv.take off).append hc).append (hv.drop _)
  have hwo:∀x∈wr z off (K.cellsL v),zaq x=true:=by
   intro x hx
   simp only [wr,List.mem_append] at hx
   rcases hx with (hx|hx)|hx
   ·exact ho x (List.mem_of_mem_take hx)
   ·exact hoc x hx
   ·exact ho x (List.mem_of_mem_drop hx)
  have ih:=zcW place ps parts (wr z off (K.cellsL v)) (v'.cells.zipIdx.foldl (fun (cs:Array Value) (p:Value×Nat)=>cs.setIfInBounds (off+p.2) p.1) z') c (by simpa using hl)
   (fun j p q hp hq=>hrel (j+1) p q (by simpa using hp) (by simpa using hq)) (by rw [e];exact hwl) hwo hk'
  obtain ⟨c',hf,h1,h2⟩:=ih
  refine ⟨c',?_,h1,h2⟩
  simp only [Instr.fill,hp]
  split
  ·rename_i hc;simp [hsz,hzs] at hc;omega
  ·exact hf
theorem zeX {c c':List Value} (h:VL P ρ c c') (ho:∀x∈c,zaq x=true):VRel P ρ (.agg c.toArray) (.agg c'.toArray):=
 .agg (by simp [h.1]) (fun j x y hx hy=>h.2 j x y (by simpa using hx) (by simpa using hy)) (fun j x hx=>ho x (List.mem_of_getElem? (by simpa using hx)))
theorem zdL (h:HRel P B w0 ρ H w) {L:Loc} {n c c':Nat} (hn:n≤c') (hc:c'=c∨c=zaT) (h0:L.off=0) (hs:c'*P.cellsOf L.elem≤L.size):
  VRel P (ρ++ [L]) (.slice (some ⟨H.next,0,none⟩) n c) (.slice (some ⟨L.block,0,none⟩) n c'):=by
 have:=VRel.sl (P:=P) (off:=0) (zbj h L) hn hc (by rw [h0];simpa using hs)
 rw [h0] at this;exact this
theorem ziH {t e:TypeId} {i:TypeInfo} {len:Nat} {ps:List (Nat×Nat×Value)} {parts:Array (Nat×Value)} {z c:List Value} {zv:Array Value}
  (ht:P.underlying t=some (.slice e)) (hi:P.info? e=some i) (hlim:len*i.size≤16777216)
  (hz:(if len*i.size=0 then zv=#[] else ∃zz,i.zero=some zz∧zv=zz.cells))
  (hze:z=((Array.range (len*i.size)).map (zv[· % zv.size]!)).toList) (hg:VL P [] z z) (hoz:∀x∈z,zaq x=true)
  (h:HRel P B w0 ρ H w) (hl:ps.length=parts.size) (hrel:∀(j:Nat) p q,ps[j]? =some p→parts[j]? =some q→(p.1,p.2.1)=(q.1*i.size,i.size)∧VRel P ρ p.2.2 q.2)
  (hk:zaD z ps=some c):
  Gives P B w0 ρ (Instr.buildSlice t len parts) w (.slice (some ⟨H.next,0,none⟩) len len) (H.push (.cells c e true)):=by
 have hkl:∀(ps:List (Nat×Nat×Value)) (z c:List Value),zaD z ps=some c→c.length=z.length:=by
  intro ps
  induction ps with
  |nil=>intro z c h;simp [zaD] at h;rw [h]
  |cons p ps ih=>
   intro z c h
   obtain ⟨a,b,v⟩:=p
   obtain ⟨_,h2,h3,h4⟩:=zc8 h
   rw [ih _ _ h4,zdv (by omega)]
 obtain ⟨c',hf,hv,ho⟩:=zcW (P:=P) (ρ:=ρ) (fun j=>some (j*i.size,i.size)) ps parts.toList z ((Array.range (len*i.size)).map (zv[· % zv.size]!)) c (by simpa using hl)
  (fun j p q hp hq=>by obtain ⟨h1,h2⟩:=hrel j p q hp (by simpa using hq);exact ⟨by rw [h1],h2⟩) (by rw [←hze];exact hg.mono List.nil_prefix) hoz hk
 obtain ⟨L,hH,hb,hoff,he,hs⟩:=zbt (t:=e) (t2:=e) h hv ho
 have hlen:c'.size=len*i.size:=by
  rw [←Array.length_toList,←hv.1,hkl ps z c hk,hze];simp
 refine ⟨ρ++ [L],.slice (some ⟨w.heap.size,0,none⟩) len len,_,?_,List.prefix_append _ _,?_,hH⟩
 ·have hnl:¬(2 ^ 24< len*i.size):=by omega
  by_cases h0:len*i.size=0
  ·rw [if_pos h0] at hz
   subst hz
   simp only [h0] at hf
   have hf':Instr.fill (fun j=>some (j*i.size,i.size)) #[] parts.toList=some c':=by simpa [Array.range_zero'] using hf
   simp [Instr.buildSlice,run_underlying ht,sizeOf,typeInfo,hi,h0,hf',newRow,newObj,Sem.run,Array.range_zero']
  ·rw [if_neg h0] at hz
   obtain ⟨zz,hzz,rfl⟩:=hz
   have hnl':¬(16777216< len*i.size):=by omega
   simp [Instr.buildSlice,run_underlying ht,sizeOf,typeInfo,zeroValue,hi,hzz,h0,hnl',hf,newRow,newObj,Sem.run]
 ·rw [←hb]
  exact zdL h (Nat.le_refl _) (.inl rfl) hoff (by rw [hs,he];simp [Program.cellsOf,hi,hlen])
theorem zbL (z:Array Value) (n:Nat):(madeCells z (n*z.size)).toList=zeros z.toList n:=by
 induction n with
 |zero=>simp [madeCells,zeros]
 |succ n ih=>
  have e:(madeCells z ((n+1)*z.size)).toList=(madeCells z (n*z.size)).toList++z.toList:=by
   apply List.ext_getElem?
   intro j
   have hs:(madeCells z (n*z.size)).toList.length=n*z.size:=by simp [madeCells]
   have hmul:(n+1)*z.size=n*z.size+z.size:=by rw [Nat.add_mul];simp
   rcases Nat.lt_or_ge j (n*z.size) with h|h
   ·rw [List.getElem?_append_left (by rw [hs];exact h)]
    simp [madeCells,h,(by omega:j< (n+1)*z.size)]
   ·rw [List.getElem?_append_right (by rw [hs];exact h),hs]
    rcases Nat.lt_or_ge j ((n+1)*z.size) with h2|h2
    ·have hm:j % z.size=j - n*z.size:=by
      have hc:n*z.size=z.size*n:=Nat.mul_comm _ _
      have:j=(j - n*z.size)+z.size*n:=by omega
      rw [this,Nat.add_mul_mod_self_left,Nat.mod_eq_of_lt (by omega)];omega
     have hlt:j - n*z.size< z.size:=by omega
     simp [madeCells,h2,hm,hlt]
    ·rw [List.getElem?_eq_none (by simp [madeCells];omega),List.getElem?_eq_none (by simp;omega)]
  rw [e,ih]
  simp [zeros,List.replicate_succ',List.flatten_append]
theorem zeros_length (z:List Value) (n:Nat):(zeros z n).length=n*z.length:=by
 induction n with
 |zero=>simp [zeros]
 |succ n ih=>simp only [zeros,List.replicate_succ',List.flatten_append,List.length_append] at ih⊢;rw [ih,Nat.add_mul];simp
theorem VL.zeros {z z':List Value} (h:VL P ρ z z') (n:Nat):VL P ρ (K.zeros z n) (K.zeros z' n):=by
 induction n with
 |zero=>exact VL.nil
 |succ n ih=>simp only [K.zeros,List.replicate_succ',List.flatten_append] at ih⊢;exact ih.append (by simpa using h)
theorem zeY {z:List Value} (h:∀x∈z,zaq x=true) (n:Nat):∀x∈zeros z n,zaq x=true:=by
 intro x hx
 simp only [zeros,List.mem_flatten,List.mem_replicate] at hx
 obtain ⟨l,⟨_,rfl⟩,hx⟩:=hx
 exact h x hx
theorem ziI {t e:TypeId} {i:TypeInfo} {z:Value} (ht:P.underlying t=some (.slice e)) (hi:P.info? e=some i) (hz:i.zero=some z) (hzs:z.cells.size=i.size)
  (hg:VL P [] z.cells.toList z.cells.toList) (hoz:∀x∈z.cells.toList,zaq x=true) (h:HRel P B w0 ρ H w) {l l' c c' v:Value} {H':Heap} (hl:VRel P ρ l l') (hc:VRel P ρ c c')
  (hk:zcS H e z.cells.toList i.bytes l c=some (v,H')):Gives P B w0 ρ (Instr.makeSlice t l' c') w v H':=by
 unfold zcS at hk
 split at hk
 ·rename_i kl l kc c
  cases hl;cases hc
  split at hk
  ·rename_i hcond
   obtain ⟨h0,hlc,h63,hb⟩:=hcond
   simp only [Option.some.injEq,Prod.mk.injEq] at hk
   obtain ⟨rfl,rfl⟩:=hk
   have hr:=run_make (P:=P) w t e i z ht hi hz kl kc l c h0 hlc hb h63
   have hme:(madeCells z.cells (c.toNat*i.size)).toList=zeros z.cells.toList c.toNat:=by rw [←hzs];exact zbL _ _
   obtain ⟨L,hH,hbk,hoff,he,hs⟩:=zbt (t:=e) (t2:=e) h ((hg.mono (List.nil_prefix (l:=ρ))).zeros c.toNat) (zeY hoz c.toNat)
   rw [←hme,Array.toArray_toList] at hH
   rw [hme] at hH
   refine ⟨ρ++ [L],_,_,hr,List.prefix_append _ _,?_,hH⟩
   rw [←hbk]
   exact zdL h (by omega) (.inl rfl) hoff (by rw [hs,he,zeros_length];simp [Program.cellsOf,hi,hzs])
  ·cases hk
 ·cases hk
theorem zcp {t:TypeId} {esz n c:Nat} {a:Option Addr} {x':Value} {l:List Value} (h:HRel P B w0 ρ H w) (hx:VRel P ρ (.slice a n c) x') (hr:zbz H t esz n a=some l):
  l.length=n*esz∧∃a' c',x'= .slice a' n c'∧∃l',VL P ρ l l'∧l'.length=n*esz∧(∀x∈l,zaq x=true)∧
   ((a'=none∧n=0)∨∃b',a'=some b'∧∀(j:Nat) v,l'[j]? =some v→w.cell? (b'.add j)=some v):=by
 unfold zbz at hr
 cases hx with
 |snil=>
  simp at hr;subst hr
  exact ⟨by simp,none,0,rfl,[],VL.nil,by simp,by simp,.inl ⟨rfl,rfl⟩⟩
 |sl hL hn hc hs=>
  simp only at hr
  split at hr
  ·rename_i cs t' rw hg
   split at hr
   ·obtain ⟨l',hv,hl',ho,_,hcell⟩:=zdI h hg hL hr
    exact ⟨zbs hr,_,_,rfl,l',hv,hl',ho,.inr ⟨_,rfl,fun j v hj=>by rw [Addr.add_lit];exact hcell j v hj⟩⟩
   ·cases hr
  ·cases hr
 |sl0=>
  simp only at hr
  split at hr
  ·split at hr
   ·have hl:=zbs hr
    have:l= []:=List.eq_nil_of_length_eq_zero (by simpa using hl)
    subst this
    exact ⟨by simp,_,_,rfl,[],VL.nil,by simp,by simp,.inr ⟨_,rfl,fun j v hj=>by simp at hj⟩⟩
   ·cases hr
  ·cases hr
def zcX (P:Program) (xt:TypeId):Prop:=(∃e,P.underlying xt=some (.slice e))∨P.underlying xt=some .string
theorem run_append_room' {t xt ty e:TypeId} {i:TypeInfo} {m:Nat} {x':Value} {news:List Value} (ht:P.underlying t=some (.slice e)) (hd:zcX P xt) (hi:P.info? e=some i)
  (hlen:(Builtin.lenOf x').run P w= .ok m w) (hnews:(Builtin.firstCells i.size m x').run P w= .ok news.toArray w) (a:Addr) (n c:Nat) (hroom:n+m≤c) {w':World}
  (hst:(storeCells (a.add (n*i.size)) news).run P w= .ok () w'):
  (Builtin.append_ #[t,xt] ty #[.slice (some a) n c,x']).run P w= .ok (.slice (some a) (n+m) c) w':=by
 rcases hd with ⟨e2,hd⟩|hd<;>simp [Builtin.append_,run_underlying ht,run_underlying hd,sizeOf,typeInfo,hi,hlen,hroom,hnews,hst]
theorem zcE {t xt ty e:TypeId} {i:TypeInfo} {x':Value} (ht:P.underlying t=some (.slice e)) (hd:zcX P xt) (hi:P.info? e=some i)
  (hlen:(Builtin.lenOf x').run P w= .ok 0 w) (hnews:(Builtin.firstCells i.size 0 x').run P w= .ok #[] w):
  (Builtin.append_ #[t,xt] ty #[.slice none 0 0,x']).run P w= .ok (.slice none 0 0) w:=by
 rcases hd with ⟨e2,hd⟩|hd<;>simp [Builtin.append_,run_underlying ht,run_underlying hd,sizeOf,typeInfo,hi,hlen,hnews]
theorem run_append_grow' {t xt ty e:TypeId} {i:TypeInfo} {z:Value} {m:Nat} {x':Value} {olds news:List Value} (ht:P.underlying t=some (.slice e)) (hd:zcX P xt) (hi:P.info? e=some i) (hz:i.zero=some z)
  (hlen:(Builtin.lenOf x').run P w= .ok m w) (hnews:(Builtin.firstCells i.size m x').run P w.drew= .ok news.toArray w.drew) (a:Option Addr) (n c:Nat) (hroom:c< n+m)
  (holds:(Builtin.firstCells i.size n (.slice a n c)).run P w.drew= .ok olds.toArray w.drew) (hb:(n+m)*i.bytes≤zar) (hm:n+m≤zar):
  (Builtin.append_ #[t,xt] ty #[.slice a n c,x']).run P w= .ok (.slice (some ⟨w.heap.size,0,none⟩) (n+m) (grownCap w (n+m) c e))
   (w.drew.alloc (.cells (olds.toArray++news.toArray++Builtin.zeroCells z.cells (grownCap w (n+m) c e - (n+m))) e)):=by
 have hn:¬(n+m≤c):=by omega
 have h63':¬(9223372036854775807< ((n:Int)+(m:Int))):=by simp only [zar] at hm;omega
 have h48':¬(281474976710656< Builtin.nextslicecap (n+m) c*i.bytes):=by have:=growslice_fits hroom (bytes:=i.bytes) (by simpa [zar] using hb);omega
 rcases hd with ⟨e2,hd⟩|hd<;>
  (simp [Builtin.append_,run_underlying ht,run_underlying hd,sizeOf,typeInfo,zeroValue,hi,hz,hlen,hn,h63',h48',Question.forced,hnews,holds,newRow,grownCap]
   try (congr 2
        apply Array.ext'
        simp [List.append_assoc]))
theorem zfQ (h:HRel P B w0 ρ H w) {b:Nat} {L:Loc} (hL:ρ[b]? =some L) (ho:(H.get b).own=true):
  ∀(b':Nat) L',ρ[b']? =some L'→((H.put b .dead).get b').live=true→L'.block≠L.block:=by
 intro b' L' hb' hl
 rw [Heap.get_put] at hl
 split at hl
 ·cases hl
 ·rename_i hne
  have hlt:b< H.next:=Heap.lt_of_live (zbi ho)
  have hbb:b≠b':=fun e=>hne ⟨e.symm,hlt⟩
  exact fun e=>h.inj b b' L L' hL hb' hbb ho hl e.symm
theorem zgb {t xt ty e:TypeId} {i:TypeInfo} {z:Value} {m:Nat} {x' s s' v:Value} {news news':List Value} {H':Heap} (ht:P.underlying t=some (.slice e)) (hd:zcX P xt) (hi:P.info? e=some i) (hz:i.zero=some z) (hzs:z.cells.size=i.size) (h:HRel P B w0 ρ H w) (hs:VRel P ρ s s')
  (hlen:∀w,(Builtin.lenOf x').run P w= .ok m w) (hnews:(Builtin.firstCells i.size m x').run P w= .ok news'.toArray w) (hnews2:(Builtin.firstCells i.size m x').run P w.drew= .ok news'.toArray w.drew)
  (hv:VL P ρ news news') (hnl:news.length=m*i.size) (ho:∀x∈news,zaq x=true) (hk:zcm H e i.size i.bytes s m news=some (v,H')):
  Gives P B w0 ρ (Builtin.append_ #[t,xt] ty #[s',x']) w v H':=by
 have hcells:P.cellsOf e=i.size:=by simp [Program.cellsOf,hi]
 have moved:∀(H1:Heap) (olds olds':List Value) (a:Option Addr) (n c:Nat),HRel P B w0 ρ H1 w→H1.next=H.next→VL P ρ olds olds'→(∀x∈olds,zaq x=true)→olds.length=n*i.size→c< n+m→
   (Builtin.firstCells i.size n (.slice a n c)).run P w.drew= .ok olds'.toArray w.drew→(n+m)*i.bytes≤zar→n+m≤zar→
   Gives P B w0 ρ (Builtin.append_ #[t,xt] ty #[.slice a n c,x']) w (.slice (some ⟨H.next,0,none⟩) (n+m) zaT) (H1.push (.cells (olds++news) e true)):=by
  intro H1 olds olds' a n c h1 hn1 hvo hoo hol hroom holds hb hm
  have hr:=run_append_grow' (ty:=ty) (olds:=olds') (news:=news') ht hd hi hz (hlen w) hnews2 a n c hroom holds hb hm
  have hge:=grownCap_ge w (n+m) c e
  have e1:olds'.toArray++news'.toArray++Builtin.zeroCells z.cells (grownCap w (n+m) c e - (n+m))=((olds'++news')++(Builtin.zeroCells z.cells (grownCap w (n+m) c e - (n+m))).toList).toArray:=by simp
  rw [e1] at hr
  have hlt:(olds'++news').length=(n+m)*i.size:=by rw [List.length_append,←hvo.1,←hv.1,hol,hnl,Nat.add_mul]
  have hH:=zfl (rw:=true) (t:=e) (t2:=e) h1.drew (hvo.append hv) (fun x hx=>(List.mem_append.1 hx).elim (hoo x) (ho x)) (Builtin.zeroCells z.cells (grownCap w (n+m) c e - (n+m))).toList
  refine ⟨_,_,_,hr,List.prefix_append _ _,?_,hH⟩
  have:=zdL (L:=⟨w.drew.heap.size,0,(olds'++news').length+(Builtin.zeroCells z.cells (grownCap w (n+m) c e - (n+m))).toList.length,e⟩) h1.drew (n:=n+m) (c:=zaT) (c':=grownCap w (n+m) c e) hge (.inr rfl) rfl (by
   simp only [hcells,hlt,Array.length_toList,size_zeroCells,hzs,←Nat.add_mul]
   exact Nat.le_of_eq (by congr 1;omega))
  rw [hn1] at this
  exact this
 unfold zcm at hk
 split at hk
 ·
  rename_i n c
  cases hs
  split at hk
  ·rename_i hc
   obtain ⟨_,_,hb,hm⟩:=hc
   split at hk
   ·rename_i hm0
    subst hm0
    simp only [Option.some.injEq,Prod.mk.injEq] at hk
    obtain ⟨rfl,rfl⟩:=hk
    have hn':news'= []:=List.eq_nil_of_length_eq_zero (by rw [←hv.1,hnl];simp)
    subst hn'
    exact Gives.same h (zcE ht hd hi (hlen w) hnews) .snil
   ·rename_i hm0
    simp only [Option.some.injEq,Prod.mk.injEq] at hk
    obtain ⟨rfl,rfl⟩:=hk
    have:=moved H [] [] none 0 0 h rfl VL.nil (by simp) (by simp) (by omega) (by simp [Builtin.firstCells]) (by simpa using hb) (by simpa using hm)
    simpa using this
  ·cases hk
 ·rename_i a n c
  split at hk
  ·rename_i cs t' rw hg
   split at hk
   ·rename_i hc
    obtain ⟨rfl,hb,hm⟩:=hc
    split at hk
    ·rename_i hcx
     subst hcx
     split at hk
     ·
      rename_i hm0
      subst hm0
      simp only [Option.some.injEq,Prod.mk.injEq] at hk
      obtain ⟨rfl,rfl⟩:=hk
      have hn':news'= []:=List.eq_nil_of_length_eq_zero (by rw [←hv.1,hnl];simp)
      subst hn'
      cases hs with
      |sl hL hn hc hsz=>
       rename_i b off c' L
       have:=run_append_room' (ty:=ty) (news:= []) ht hd hi (hlen w) hnews ⟨L.block,L.off+off,none⟩ n c' (by simpa using hn) (w':=w) (by simp [storeCells])
       exact Gives.same h this (.sl hL hn hc hsz)
      |sl0=>
       rename_i a'
       have:=run_append_room' (ty:=ty) (news:= []) ht hd hi (hlen w) hnews a' 0 0 (by simp) (w':=w) (by simp [storeCells])
       exact Gives.same h this .sl0
     ·rename_i hm0
      split at hk
      ·rename_i hrw
       cases hrd:rd cs a.off (n*i.size) with
       |none=>simp [hrd] at hk
       |some olds=>
        simp only [hrd,Option.map_some,Option.some.injEq,Prod.mk.injEq] at hk
        obtain ⟨rfl,rfl⟩:=hk
        have hown:(H.get a.block).own=true:=by rw [hg];exact hrw
        cases hs with
        |sl0=>
         rename_i b off a'
         have hol:olds= []:=List.eq_nil_of_length_eq_zero (by have:=zbs hrd;simpa using this)
         subst hol
         have:=moved (H.put b .dead) [] [] (some a') 0 0 (h.kill b) (Heap.next_put _ _ _) VL.nil (by simp) (by simp) (by omega) (by simp [Builtin.firstCells,loadCells,loadCellsFrom]) hb hm
         simpa using this
        |sl hL hn hc hsz=>
         rename_i b off c' L
         simp only at hg hown hrd
         obtain ⟨olds',hvo,hol',hoo,hoo',hcell⟩:=zdI h hg hL hrd
         have hole:=zbs hrd
         rcases Nat.lt_or_ge c' (n+m) with hlt|hge
         ·exact moved (H.put b .dead) olds olds' _ n c' (h.kill b) (Heap.next_put _ _ _) hvo hoo hole hlt (by
          have:=run_firstCells_some (P:=P) w.drew i.size n ⟨L.block,L.off+off,none⟩ n c' olds' hol' (fun j v hj=>by rw [Addr.add_lit];exact hcell j v hj)
          exact this) hb hm
         ·
          obtain ⟨he,arr,tw,fr,h2,hsz2,hle,h5,h6⟩:=za3 h hg hL
          have hfit:L.off+off+(n+m)*i.size≤arr.size:=by
           rw [hsz2]
           have:(n+m)*i.size≤c'*i.size:=Nat.mul_le_mul_right _ hge
           rw [he,hcells] at hsz
           omega
          have ho':∀y∈news',zaq y=true:=by
           intro y hy
           obtain ⟨j,hj⟩:=List.mem_iff_getElem?.1 hy
           have hlt:j< news.length:=by rw [hv.1];exact (List.getElem?_eq_some_iff.1 hj).1
           rw [(hv.2 j _ y (List.getElem?_eq_getElem hlt) hj).oneC_eq];exact ho _ (List.getElem_mem hlt)
          have hmul:(n+m)*i.size=n*i.size+m*i.size:=Nat.add_mul _ _ _
          have hst:=zbB (P:=P) L.block (L.off+off+n*i.size) tw fr news' 0 arr w h2 (by rw [←hv.1,hnl];omega) ho' (h6 hrw)
          have hr:=run_append_room' (ty:=ty) (news:=news') ht hd hi (hlen w) hnews ⟨L.block,L.off+off,none⟩ n c' hge (by rw [Addr.add_lit];exact hst)
          have hB:¬B.fr L.block:=h.own b L hL hown
          have hG:¬B.gh L.block:=h.ghost b L hL (zbi hown)
          refine ⟨ρ++ [⟨L.block,L.off+off,L.size,t'⟩],_,_,hr,List.prefix_append _ _,?_,?_⟩
          ·have hnx:(ρ++ [(⟨L.block,L.off+off,L.size,t'⟩:Loc)])[H.next]? =some ⟨L.block,L.off+off,L.size,t'⟩:=zbj h _
           have:=VRel.sl (P:=P) (off:=0) (n:=n+m) (c:=zaT) (c':=c') hnx hge (.inr rfl) (by rw [he] at hsz;simpa using hsz)
           simpa using this
          ·refine (h.kill b).push_at hB hG (fun b' L' hb' hl=>zfQ (L:=L) h hL hown b' L' hb' hl) (Bel.setRow hB hG _) (fun j hj _=>setRow_other w _ _ _ hj) ?_
           have hsz':(arr.toList.take (L.off+off+n*i.size+0)++news'++arr.toList.drop (L.off+off+n*i.size+0+news'.length)).length=arr.size:=by
            simp only [List.length_append,List.length_take,List.length_drop,Array.length_toList,←hv.1,hnl];omega
           refine ⟨rfl,_,tw,fr,setRow_heap w _ arr _ tw fr h2,by simpa [hsz2] using hsz',?_,?_,fun _ j hj=>h6 hrw j (by rw [List.size_toArray,hsz'] at hj;exact hj)⟩
           ·rw [List.size_toArray,hsz',List.length_append,hole,hnl,←hmul];exact hfit
           ·intro j x hx
            have hwr:=zdK (c:=arr.toList) (vs:=news') (off:=L.off+off+n*i.size) (by rw [←hv.1,hnl];simp;omega) (L.off+off+j)
            have hy:((arr.toList.take (L.off+off+n*i.size+0)++news'++arr.toList.drop (L.off+off+n*i.size+0+news'.length)).toArray)[L.off+off+j]? =
             (wr arr.toList (L.off+off+n*i.size) news')[L.off+off+j]? :=by simp [wr]
            rw [hy,hwr]
            rcases Nat.lt_or_ge j olds.length with hjl|hjg
            ·rw [List.getElem?_append_left hjl] at hx
             rw [if_neg (by omega)]
             obtain ⟨y,hyy,hvv⟩:=hvo.get hx
             refine ⟨hoo x (List.mem_of_getElem? hx),y,?_,hvv.mono (List.prefix_append _ _)⟩
             have hc2:=hcell j y hyy
             simp only [World.cell?,h2] at hc2
             simpa using hc2
            ·rw [List.getElem?_append_right hjg] at hx
             have hjn:j - olds.length< news.length:=(List.getElem?_eq_some_iff.1 hx).1
             rw [if_pos (by rw [←hv.1];omega)]
             obtain ⟨y,hyy,hvv⟩:=hv.get hx
             refine ⟨ho x (List.mem_of_getElem? hx),y,?_,hvv.mono (List.prefix_append _ _)⟩
             rw [←hyy];congr 1;omega
      ·cases hk
    ·rename_i hcx
     have hcc:∀{b off c':Nat} {L:Loc},(c'=c∨c=zaT)→c'=c:=fun h=>h.resolve_right hcx
     cases hs with
     |sl0=>exact absurd rfl hcx
     |sl hL hn hc hsz=>
      rename_i b off c' L
      obtain rfl:c'=c:=hc.resolve_right hcx
      simp only at hg hk
      split at hk
      ·rename_i hroom
       split at hk
       ·rename_i hm0
        subst hm0
        simp only [Option.some.injEq,Prod.mk.injEq] at hk
        obtain ⟨rfl,rfl⟩:=hk
        have hn':news'= []:=List.eq_nil_of_length_eq_zero (by rw [←hv.1,hnl];simp)
        subst hn'
        have:=run_append_room' (ty:=ty) (news:= []) ht hd hi (hlen w) hnews ⟨L.block,L.off+off,none⟩ n c' (by simpa using hn) (w':=w) (by simp [storeCells])
        exact Gives.same h this (.sl hL hn (.inl rfl) hsz)
       ·split at hk
        ·rename_i hcond
         simp only [Bool.and_eq_true,decide_eq_true_eq] at hcond
         obtain ⟨hrw,hfit⟩:=hcond
         subst hrw
         simp only [Option.some.injEq,Prod.mk.injEq] at hk
         obtain ⟨rfl,rfl⟩:=hk
         have hmul:(n+m)*i.size=n*i.size+m*i.size:=Nat.add_mul _ _ _
         obtain ⟨w',hst,hH⟩:=zbZ (vs:=news) (vs':=news') h hg hL (off:=off+n*i.size) (by rw [hnl];omega) hv ho
         have hr:=run_append_room' (ty:=ty) (news:=news') ht hd hi (hlen w) hnews ⟨L.block,L.off+off,none⟩ n c' hroom (by rw [Addr.add_lit,Nat.add_assoc];exact hst)
         exact ⟨ρ,_,w',hr,List.prefix_refl _,.sl hL hroom (.inl rfl) hsz,hH⟩
        ·cases hk
      ·rename_i hroom
       cases hrd:rd cs off (n*i.size) with
       |none=>simp [hrd] at hk
       |some olds=>
        simp only [hrd,Option.map_some,Option.some.injEq,Prod.mk.injEq] at hk
        obtain ⟨rfl,rfl⟩:=hk
        obtain ⟨olds',hvo,hol',hoo,hoo',hcell⟩:=zdI h hg hL hrd
        exact moved H olds olds' _ n c' h rfl hvo hoo (zbs hrd) (by omega) (by
         have:=run_firstCells_some (P:=P) w.drew i.size n ⟨L.block,L.off+off,none⟩ n c' olds' hol' (fun j v hj=>by rw [Addr.add_lit];exact hcell j v hj)
         exact this) hb hm
   ·cases hk
  ·cases hk
 ·cases hk
end
section
variable {P:Program} {B:Fz} {w0 w:World} {ρ:Rho} {H:Heap}
theorem VL.eq_of {xs ys:List Value} (h:VL P ρ xs ys) (he:∀x∈xs,∀y,VRel P ρ x y→y=x):ys=xs:=by
 apply List.ext_getElem?
 intro i
 cases hx:xs[i]? with
 |none=>rw [List.getElem?_eq_none_iff] at hx⊢;rw [←h.1];exact hx
 |some x=>obtain ⟨y,hy,hv⟩:=h.get hx;rw [hy,he x (List.mem_of_getElem? hx) y hv]
theorem Heap.put_self (H:Heap) (b:Nat):H.put b (H.get b)=H:=by
 induction H generalizing b with
 |nil=>rfl
 |cons x H ih=>cases b<;>simp [Heap.put,Heap.get,ih]
theorem ziJ {t xt ty e:TypeId} {i:TypeInfo} (ht:P.underlying t=some (.slice e)) (hi:P.info? e=some i) (h:HRel P B w0 ρ H w) {n c m c2:Nat} {a b:Option Addr} {x' y' v:Value} {H':Heap}
  (hx:VRel P ρ (.slice a n c) x') (hy:VRel P ρ (.slice b m c2) y')
  (hk:((zbz H e i.size (min m n) b).bind fun l=>match a with
   |none=>some (Value.int .i64 (min m n:Nat),H)
   |some a=>match H.get a.block with
    | .cells c t' true=>if t'=e && decide (a.off+l.length≤c.length) then some (.int .i64 (min m n:Nat),H.put a.block (.cells (wr c a.off l) t' true)) else none
    |_=>none)=some (v,H')):Gives P B w0 ρ (Builtin.copy_ #[t,xt] ty #[x',y']) w v H':=by
 cases hr:zbz H e i.size (min m n) b with
 |none=>simp [hr] at hk
 |some l=>
  simp only [hr,Option.bind_some] at hk
  have hy2:∃x2,VRel P ρ (.slice b (min m n) c2) x2∧∃b' cc mm,y'= .slice b' m cc∧x2= .slice b' (min m n) mm:=by
   cases hy with
   |snil=>exact ⟨_,by simp;exact .snil,none,0,0,rfl,by simp⟩
   |sl hL hn hc hs=>exact ⟨_,.sl hL (by omega) hc hs,_,_,_,rfl,rfl⟩
   |sl0=>
    rename_i bb oo aa
    exact ⟨.slice (some aa) 0 0,by simpa using VRel.sl0 (P:=P) (ρ:=ρ) (b:=bb) (off:=oo) (a':=aa),some aa,0,0,rfl,by simp⟩
  obtain ⟨x2,hx2,b',cc,mm,rfl,rfl⟩:=hy2
  obtain ⟨hll,a2,c',he2,l',hv,hl',ho,hcell⟩:=zcp h hx2 hr
  injection he2 with e1 e2 e3
  subst e1
  have hf:(Builtin.firstCells i.size (min m n) (.slice b' m cc)).run P w= .ok l'.toArray w:=by
   rcases hcell with ⟨rfl,h0⟩|⟨b2,rfl,hc2⟩
   ·have:l'= []:=List.eq_nil_of_length_eq_zero (by rw [hl',h0];simp)
    subst this
    simp [Builtin.firstCells]
   ·exact run_firstCells_some (P:=P) w i.size (min m n) b2 m cc l' hl' hc2
  have hmin:Nat.min m n=min m n:=rfl
  cases hx with
  |snil=>
   simp only [Option.some.injEq,Prod.mk.injEq] at hk
   obtain ⟨rfl,rfl⟩:=hk
   refine Gives.same h ?_ (.int _ _)
   simp only [Nat.min_zero] at hf⊢
   simp [Builtin.copy_,run_underlying ht,Builtin.lenOf,sizeOf,typeInfo,hi,hf,goInt]
  |sl0=>
   rename_i bb oo aa
   simp only at hk
   split at hk
   ·rename_i cs t' hg
    split at hk
    ·rename_i hcond
     simp only [Bool.and_eq_true,decide_eq_true_eq] at hcond
     simp only [Option.some.injEq,Prod.mk.injEq] at hk
     obtain ⟨rfl,rfl⟩:=hk
     have hl0:l= []:=List.eq_nil_of_length_eq_zero (by rw [hll];simp)
     have hl0':l'= []:=List.eq_nil_of_length_eq_zero (by rw [hl'];simp)
     subst hl0;subst hl0'
     have hput:H.put bb (.cells (wr cs oo []) t' true)=H:=by
      have:wr cs oo []=cs:=by simp [wr]
      rw [this,←hg,Heap.put_self]
     simp only [hput]
     refine Gives.same h ?_ (.int _ _)
     simp only [hmin] at*
     simp at hf
     simp [Builtin.copy_,run_underlying ht,Builtin.lenOf,sizeOf,typeInfo,hi,hf,goInt,storeCells]
    ·cases hk
   ·cases hk
  |sl hL hn hc hs=>
   rename_i bb oo c' L
   simp only at hk
   split at hk
   ·rename_i cs t' hg
    split at hk
    ·rename_i hcond
     simp only [Bool.and_eq_true,decide_eq_true_eq] at hcond
     simp only [Option.some.injEq,Prod.mk.injEq] at hk
     obtain ⟨rfl,rfl⟩:=hk
     obtain ⟨w',hst,hH⟩:=zbZ (vs:=l) (vs':=l') h hg hL (off:=oo) hcond.2 hv ho
     refine ⟨ρ,_,w',?_,List.prefix_refl _,.int _ _,hH⟩
     simp only [hmin] at*
     simp [Builtin.copy_,run_underlying ht,Builtin.lenOf,sizeOf,typeInfo,hi,hf,goInt,hst,hmin]
    ·cases hk
   ·cases hk
theorem zeZ {l:List Value}:∀{bs:List UInt8},zbh l=some bs→∃ns:List Int,l=ns.map (Value.int .u8)∧bs=ns.map fun n=>UInt8.ofNat n.toNat:=by
 induction l with
 |nil=>intro bs h;exact ⟨[],rfl,by simpa [zbh] using h.symm⟩
 |cons v l ih=>
  intro bs h
  cases v with
  |int k n=>
   cases k with
   |u8=>
    simp only [zbh] at h
    cases hb:zbh l with
    |none=>simp [hb] at h
    |some bs'=>
     simp [hb] at h
     obtain ⟨ns,rfl,rfl⟩:=ih hb
     exact ⟨n::ns,rfl,by simpa using h.symm⟩
   |_=>simp [zbh] at h
  |_=>simp [zbh] at h
theorem b2s_ok {src dst e:TypeId} (hs:P.underlying src=some (.slice e)) (he:P.underlying e=some (.int .u8)) (hd:P.underlying dst=some .string) (h:HRel P B w0 ρ H w)
  {a:Option Addr} {n c:Nat} {x':Value} {l:List Value} {bs:List UInt8} (hx:VRel P ρ (.slice a n c) x') (hr:zbz H e 1 n a=some l) (hb:zbh l=some bs):
  Gives P B w0 ρ (convert src dst x') w (.string ⟨bs.toArray⟩) H:=by
 obtain ⟨hll,a2,c',rfl,l',hv,hl',ho,hcell⟩:=zcp h hx hr
 obtain ⟨ns,rfl,rfl⟩:=zeZ hb
 have hle:l'=ns.map (Value.int .u8):=hv.eq_of (fun x hx y hy=>by
  obtain ⟨n,_,rfl⟩:=List.mem_map.1 hx
  cases hy;rfl)
 subst hle
 refine Gives.same h (v':= .string ⟨(ns.map fun n=>UInt8.ofNat n.toNat).toArray⟩) ?_ (.string _)
 rw [run_convert_bytes_string w src dst e _ _ _ hs he hd]
 rcases hcell with ⟨rfl,h0⟩|⟨b2,rfl,hc2⟩
 ·have hn0:ns= []:=by
   have:ns.length=0:=by have:=hl';simp at this;omega
   exact List.eq_nil_of_length_eq_zero this
  subst hn0
  simp [Conv.bytesToString]
  rfl
 ·have hlc:=run_loadCells_list (P:=P) w b2 _ hc2
  rw [hl',Nat.mul_one] at hlc
  rw [run_bytesToString w b2 n c' ns hlc,foldl_push_bytes]
  simp
theorem VL.bytes (s:ByteArray):VL P ρ (zas s) (zas s):=
 ⟨rfl,fun i x y hx hy=>by
  rw [hx] at hy;cases hy
  simp only [zas,List.getElem?_map] at hx
  cases hs:s.data.toList[i]? with
  |none=>simp [hs] at hx
  |some b=>simp [hs] at hx;subst hx;exact .int _ _⟩
theorem zc9 (s:ByteArray):∀x∈zas s,zaq x=true:=by
 intro x hx
 simp only [zas,List.mem_map] at hx
 obtain ⟨b,_,rfl⟩:=hx
 rfl
theorem zba (s:ByteArray):(zas s).length=s.size:=by simp [zas]
theorem zeh (w:World) (g n k:Nat) (i:Nat) (hi:i≠g):(w.freeze ⟨g,n,none⟩ k).heap[i]? =w.heap[i]? :=by
 unfold World.freeze
 split
 ·rfl
 ·simp only [Array.getElem?_modify];rw [if_neg (fun e=>hi e.symm)]
theorem s2b_ok {src dst e:TypeId} {i:TypeInfo} {d:TypeDesc} (hs:P.underlying src=some d) (hdst:P.underlying dst=some (.slice e)) (he:P.underlying e=some (.int .u8)) (hi:P.info? e=some i) (h1:i.size=1)
  (h:HRel P B w0 ρ H w) (s:ByteArray) (hsz:s.size≤zar):
  Gives P B w0 ρ (convert src dst (.string s)) w (.slice (some ⟨H.next,0,none⟩) s.size zaT) (H.push (.cells (zas s) e true)):=by
 have hge:=grownCap_ge w s.size 0 e
 have hcells:P.cellsOf e=1:=by simp [Program.cellsOf,hi,h1]
 obtain ⟨arr,harr⟩:∃arr:Array Value,arr=((zas s)++List.replicate (grownCap w s.size 0 e - s.size) (Value.int .u8 0)).toArray:=⟨_,rfl⟩
 have hasz:arr.size=grownCap w s.size 0 e:=by rw [harr];simp [zba];omega
 have hrun:(convert src dst (.string s)).run P w= .ok (.slice (some ⟨w.heap.size,0,none⟩) s.size (grownCap w s.size 0 e)) ((w.drew.alloc (.cells arr e)).freeze ⟨w.heap.size,arr.size,none⟩ 1):=by
  have e1:(s.data.map fun b=>Value.int .u8 b.toNat)++Array.replicate (grownCap w s.size 0 e - s.size) (Value.int .u8 0)=arr:=by
   rw [harr];apply Array.ext';simp [zas]
  have hsh:(w.drew.alloc (.cells arr e)).shape? w.heap.size=some (e,arr.size):=by
   have h0:(w.drew.alloc (.cells arr e)).heap[w.heap.size]? =some (.cells arr e):=heap_alloc_new w.drew _
   simp only [World.shape?,h0]
  have e2:(Conv.stringToBytes e s).run P w= .ok (.slice (some ⟨w.heap.size,0,none⟩) s.size (grownCap w s.size 0 e)) ((w.drew.alloc (.cells arr e)).freeze ⟨w.heap.size,arr.size,none⟩ 1):=by
   unfold grownCap at e1⊢
   simp only [Conv.stringToBytes,Sem.run_bind,choose,Sem.run,Question.forced,Bool.false_eq_true,if_false,Result.andThen,newRow,newObj,Sem.run_pure,markStringish,shape,freeze,World.drew_eq,World.alloc_eq,World.size_drew]
   rw [e1,hsh]
   rfl
  cases d<;>simp [convert,run_underlying hs,run_underlying hdst,run_underlying he,e2]
 refine ⟨ρ++ [⟨w.heap.size,0,arr.size,e⟩],_,_,hrun,List.prefix_append _ _,?_,?_⟩
 ·exact zdL h hge (.inr rfl) rfl (by simp [hcells,hasz])
 ·have hnew:((w.drew.alloc (.cells arr e)).freeze ⟨w.heap.size,arr.size,none⟩ 1).heap[w.heap.size]? =some (.cells arr e (arr.size,arr.size+1)):=by
   have h0:(w.drew.alloc (.cells arr e)).heap[w.heap.size]? =some (.cells arr e):=heap_alloc_new w.drew _
   simp only [World.freeze,Nat.succ_ne_zero,if_false,Array.getElem?_modify,if_true,h0,Option.map_some]
   simp
  have hold:∀j,j≠w.heap.size→j< w.heap.size→((w.drew.alloc (.cells arr e)).freeze ⟨w.heap.size,arr.size,none⟩ 1).heap[j]? =w.heap[j]? :=fun j hj hlt=>by
   rw [zeh _ _ _ _ _ hj];exact Below.heap_alloc w.drew _ _ hlt
  refine h.push_at (fun hf=>by have:=h.base _ (.inl hf);simp only at this;omega) (fun hf=>by have:=h.base _ (.inr hf);simp only at this;omega) (fun b L' hb hl e=>by have:=(h.blk b L' hb).lt hl;simp only at e;omega) ⟨rfl,rfl,rfl,?_,fun k hk=>hold k (by have:=h.base k hk;omega) (h.base k hk)⟩ hold ?_
  ·simp only [World.freeze];split<;>simp
  ·refine ⟨rfl,arr,e,_,hnew,rfl,by simp [zba,hasz];omega,?_,fun _ j hj=>by simp;omega⟩
   intro j x hx
   refine ⟨zc9 s x (List.mem_of_getElem? hx),x,?_,(VL.bytes s).2 j x x hx hx⟩
   have hlt:=(List.getElem?_eq_some_iff.1 hx).1
   rw [harr]
   simp [List.getElem?_append_left hlt,hx]
def IsI (o:Option Value) (d l:Int):Prop:=(o=none∧l=d)∨∃k,o=some (.int k l)
theorem zcY {t e:TypeId} {i:TypeInfo} (ht:P.underlying t=some (.slice e)) (hi:P.info? e=some i) (a:Option Addr) (len cap:Nat) (lo hi':Option Value) (l h:Int)
  (hlo:IsI lo 0 l) (hhi:IsI hi' len h) (h0:0≤l) (h1:l≤h) (h2:h≤cap) (w:World):
  (Instr.sliceAt t (.slice a len cap) lo hi' none).run P w= .ok (sliced a l.toNat h.toNat cap i.size) w:=by
 have eh:(h.toNat:Int)=h:=Int.toNat_of_nonneg (by omega)
 have h3:0≤h:=by omega
 rcases hlo with ⟨rfl,rfl⟩|⟨kl,rfl⟩<;>rcases hhi with ⟨rfl,rfl⟩|⟨kh,rfl⟩<;>
  simp_all [Instr.sliceAt,Instr.slice,run_underlying ht,sizeOf,typeInfo,Instr.sliceBounds,run_sliceBound,sliced]
theorem zgc {t e:TypeId} {i:TypeInfo} {n:Nat} (ht:P.underlying t=some (.array n e)) (hi:P.info? e=some i) (a:Addr) (lo hi':Option Value) (l h:Int)
  (hlo:IsI lo 0 l) (hhi:IsI hi' n h) (h0:0≤l) (h1:l≤h) (h2:h≤n) (w:World):
  (Instr.sliceAt t (.pointer (some a)) lo hi' none).run P w= .ok (.slice (some (if n=l.toNat then a else a.add (l.toNat*i.size))) (h.toNat - l.toNat) (n - l.toNat)) w:=by
 have eh:(h.toNat:Int)=h:=Int.toNat_of_nonneg (by omega)
 have h3:0≤h:=by omega
 have hsa:(Instr.sureAddr (.pointer (some a))).run P w= .ok a w:=by simp [Instr.sureAddr,asAddr,Sem.run]
 rcases hlo with ⟨rfl,rfl⟩|⟨kl,rfl⟩<;>rcases hhi with ⟨rfl,rfl⟩|⟨kh,rfl⟩<;>
  simp_all [Instr.sliceAt,run_underlying ht,sizeOf,typeInfo,Instr.sliceBounds,run_sliceBound]
theorem ziK {t e:TypeId} {i:TypeInfo} {n:Nat} (ht:P.underlying t=some (.array n e)) (hi:P.info? e=some i) (h:HRel P B w0 ρ H w) {a:Addr} {x' v:Value} (hx:VRel P ρ (.pointer (some a)) x') {lo hi':Option Value} {l hh:Int}
  (hlo:IsI lo 0 l) (hhi:IsI hi' n hh) (hk:zfM H e n i.size a l hh=some v):Gives P B w0 ρ (Instr.sliceAt t x' lo hi' none) w v H:=by
 have hcells:P.cellsOf e=i.size:=by simp [Program.cellsOf,hi]
 unfold zfM at hk
 split at hk
 ·rename_i cs t' rw_ hg
  split at hk
  ·rename_i hc
   obtain ⟨rfl,hfit,h0,h1,h2⟩:=hc
   cases hk
   cases hx with
   |ptr hL=>
    rename_i b off L
    obtain ⟨he,arr,tw,fr,g2,g3,g4,g5,g6⟩:=za3 h hg hL
    refine Gives.same h (zgc ht hi _ lo hi' l hh hlo hhi h0 h1 h2 w) ?_
    have e1:(hh - l).toNat=hh.toNat - l.toNat:=by omega
    have hle:l.toNat≤n:=by omega
    simp only at hfit
    by_cases hnl:n=l.toNat
    ·rw [if_pos hnl,if_pos hnl.symm,e1]
     refine .sl hL (by omega) (.inl rfl) ?_
     have:n - l.toNat=0:=by omega
     rw [this,he,hcells]
     simp only [Nat.zero_mul]
     omega
    ·rw [if_neg hnl,if_neg (Ne.symm hnl),e1]
     have hmul:l.toNat*i.size+(n - l.toNat)*i.size=n*i.size:=by rw [←Nat.add_mul];congr 1;omega
     have:=VRel.sl (P:=P) (off:=off+l.toNat*i.size) (n:=hh.toNat - l.toNat) (c:=n - l.toNat) (c':=n - l.toNat) hL (by omega) (.inl rfl) (by rw [he,hcells];omega)
     rw [←Nat.add_assoc] at this
     have e2:(⟨L.block,L.off+off,none⟩:Addr).add (l.toNat*i.size)=⟨L.block,L.off+off+l.toNat*i.size,none⟩:=by
      simp only [Addr.add]
      split<;>simp_all
     rw [e2]
     exact this
  ·cases hk
 ·cases hk
theorem zgd {t e:TypeId} {i:TypeInfo} (ht:P.underlying t=some (.slice e)) (hi:P.info? e=some i) (h:HRel P B w0 ρ H w) {x x' v:Value} (hx:VRel P ρ x x') {lo hi':Option Value} {l:Int} {hh:Option Int}
  (hlo:IsI lo 0 l) (hhi:(hi'=none∧hh=none)∨∃k n,hi'=some (.int k n)∧hh=some n) (hk:zec H e i.size x l hh=some v):Gives P B w0 ρ (Instr.sliceAt t x' lo hi' none) w v H:=by
 have hhi':∀n:Nat,IsI hi' n (hh.getD n):=by
  intro n
  rcases hhi with ⟨rfl,rfl⟩|⟨k,m,rfl,rfl⟩
  ·exact .inl ⟨rfl,rfl⟩
  ·exact .inr ⟨k,rfl⟩
 have hcells:P.cellsOf e=i.size:=by simp [Program.cellsOf,hi]
 unfold zec at hk
 split at hk
 ·rename_i n c
  cases hx
  split at hk
  ·cases hk
  ·split at hk
   ·rename_i hc
    cases hk
    have:=zcY ht hi none 0 0 lo hi' l _ hlo (hhi' 0) hc.1 hc.2.1 hc.2.2 w
    refine Gives.same h this ?_
    have e1:(hh.getD (0:Nat)).toNat=0:=by have:=hc.2.2;have:=hc.2.1;omega
    have e2:((hh.getD (0:Nat)) - l).toNat=0:=by have:=hc.2.2;have:=hc.2.1;omega
    simp only [sliced,e1,e2,Nat.zero_sub,Option.map_none,ite_self]
    exact .snil
   ·cases hk
 ·rename_i a n c
  split at hk
  ·rename_i cs t' rw hg
   split at hk
   ·rename_i het
    subst het
    split at hk
    ·rename_i hcx
     subst hcx
     split at hk
     ·rename_i hb
      cases hk
      cases hx with
      |sl0=>
       rename_i b off a'
       have hb':0≤l∧l≤hh.getD (0:Nat)∧hh.getD (0:Nat)≤(0:Nat):=hb
       have:=zcY ht hi (some a') 0 0 lo hi' l _ hlo (hhi' 0) hb'.1 hb'.2.1 hb'.2.2 w
       refine Gives.same h this ?_
       have e0:l=0:=by omega
       have e1:hh.getD (0:Nat)=0:=by omega
       subst e0
       simp only [sliced,e1,zal]
       exact .sl0
      |sl hL hn hc hs=>
       rename_i b off c' L
       have:=zcY ht hi (some ⟨L.block,L.off+off,none⟩) n c' lo hi' l _ hlo (hhi' n) hb.1 hb.2.1 (by omega) w
       refine Gives.same h this ?_
       obtain ⟨h0,h1,h2⟩:=hb
       have hel:L.elem=t':=(za3 h hg hL).1
       simp only [sliced,zal]
       by_cases hcl:c'=l.toNat
       ·rw [if_pos hcl]
        have e1:(hh.getD (n:Nat) - l).toNat=0:=by omega
        have e2:c' - l.toNat=0:=by omega
        have e3:(hh.getD (n:Nat)).toNat - l.toNat=0:=by omega
        rw [e1,e2,e3]
        exact .sl0
       ·rw [if_neg hcl]
        have e1:(hh.getD (n:Nat)).toNat - l.toNat=(hh.getD (n:Nat) - l).toNat:=by omega
        rw [e1]
        have hle:l.toNat≤c':=by omega
        have hmul:c'*i.size=l.toNat*i.size+(c' - l.toNat)*i.size:=by rw [←Nat.add_mul];congr 1;omega
        have:=VRel.sl (P:=P) (b:=b) (off:=off+l.toNat*i.size) (n:=(hh.getD (n:Nat) - l).toNat) (c:=zaT) (c':=c' - l.toNat) hL (by omega) (.inr rfl)
         (by rw [hel,hcells] at hs⊢;omega)
        simpa [Addr.add_lit,Nat.add_assoc] using this
     ·cases hk
    ·rename_i hcx
     split at hk
     ·rename_i hb
      cases hk
      cases hx with
      |sl0=>exact absurd rfl hcx
      |sl hL hn hc hs=>
       rename_i b off c' L
       obtain rfl:c'=c:=hc.resolve_right hcx
       have:=zcY ht hi (some ⟨L.block,L.off+off,none⟩) n c' lo hi' l _ hlo (hhi' n) hb.1 hb.2.1 (by omega) w
       refine Gives.same h this ?_
       obtain ⟨h0,h1,h2⟩:=hb
       have hel:L.elem=t':=(za3 h hg hL).1
       have e1:(hh.getD (n:Nat)).toNat - l.toNat=(hh.getD (n:Nat) - l).toNat:=by omega
       simp only [sliced,zal,e1]
       have hle:l.toNat≤c':=by omega
       by_cases hcl:l.toNat=c'
       ·rw [if_pos hcl,if_pos hcl.symm]
        exact .sl hL (by omega) (.inl rfl) (by rw [hcl];simp;omega)
       ·rw [if_neg hcl,if_neg (fun e=>hcl e.symm)]
        have hmul:c'*i.size=l.toNat*i.size+(c' - l.toNat)*i.size:=by rw [←Nat.add_mul];congr 1;omega
        have:=VRel.sl (P:=P) (b:=b) (off:=off+l.toNat*i.size) (n:=(hh.getD (n:Nat) - l).toNat) (c:=c' - l.toNat) (c':=c' - l.toNat) hL (by omega) (.inl rfl)
         (by rw [hel,hcells] at hs⊢;omega)
        simpa [Addr.add_lit,Nat.add_assoc] using this
     ·cases hk
   ·cases hk
  ·cases hk
 ·cases hk
theorem ziL {t:TypeId} (ht:P.underlying t=some .string) (s:ByteArray) {lo hi':Option Value} {l hh:Int} (hlo:IsI lo 0 l) (hhi:IsI hi' s.size hh) {v:Value} (hk:zf6 s l hh=some v) (w:World):
  (Instr.sliceAt t (.string s) lo hi' none).run P w= .ok v w∧VRel P ρ v v:=by
 unfold zf6 at hk
 split at hk
 ·rename_i hc
  cases hk
  obtain ⟨h0,h1,h2⟩:=hc
  have eh:(hh.toNat:Int)=hh:=Int.toNat_of_nonneg (by omega)
  refine ⟨?_,.string _⟩
  have h3:0≤hh:=by omega
  rcases hlo with ⟨rfl,rfl⟩|⟨kl,rfl⟩<;>rcases hhi with ⟨rfl,rfl⟩|⟨kh,rfl⟩<;>
   simp_all [Instr.sliceAt,Instr.slice,run_underlying ht,Instr.sliceBounds,run_sliceBound]
 ·cases hk
end
section
variable {P:Program} {B:Fz} {w0 w:World} {ρ:Rho} {H:Heap}
theorem zge {o:BinOp} {k:IntKind} {a b:Int} {v:Value} (t:TypeId) (hk:zcl o k a b=some v) (w:World):(binOp o t (.int k a) (.int k b)).run P w= .ok v w∧VRel P ρ v v:=by
 cases o<;>simp only [zcl] at hk<;>first
  |(cases hk;done)
  |(split at hk
    ·cases hk
    ·rename_i hne
     cases hk
     exact ⟨by simp [binOp,Op.intDiv,hne],.int _ _⟩)
  |(cases hk
    exact ⟨by simp [binOp,Op.intArith,Op.intBits,Op.intCmp],by first|exact .int _ _|exact .bool _⟩)
theorem ziM {o:BinOp} {a b:ByteArray} {v:Value} (t:TypeId) (hk:ziz o a b=some v) (w:World):(binOp o t (.string a) (.string b)).run P w= .ok v w∧VRel P ρ v v:=by
 cases o<;>simp only [ziz] at hk<;>first
  |(cases hk;done)
  |(split at hk
    ·cases hk
    ·rename_i hne
     cases hk
     have hne':((a.size+b.size:Nat):Int)≤IntKind.i64.max:=by omega
     exact ⟨by simp only [binOp,Op.stringOp];rw [if_neg (by omega)];rfl,.string _⟩)
  |(cases hk
    exact ⟨by simp [binOp,Op.stringOp],.bool _⟩)
theorem ziN {o:BinOp} {x y x' y' v:Value} (t:TypeId) (hx:VRel P ρ x x') (hy:VRel P ρ y y') (hk:zaU o x y=some v) (w:World):
  (binOp o t x' y').run P w= .ok v w∧VRel P ρ v v∧∀op ox oy,(eqGuard op t ox oy x' y').run P w= .ok () w:=by
 unfold zaU at hk
 split at hk
 ·rename_i k a k' b
  cases hx;cases hy
  refine ⟨?_,?_,fun op ox oy=>by cases op<;>simp [eqGuard]⟩
  all_goals
   split at hk
   ·split at hk
    ·cases hk
    ·rename_i hb
     cases hk
     first
      |exact .int _ _
      |simp [binOp,Op.shift,hb]
   ·split at hk
    ·cases hk
    ·rename_i hb
     cases hk
     first
      |exact .int _ _
      |simp [binOp,Op.shift,hb]
   ·split at hk
    ·rename_i hkk
     subst hkk
     first
      |exact (zge (P:=P) (ρ:=ρ) t hk w).1
      |exact (zge (P:=P) (ρ:=ρ) t hk w).2
    ·cases hk
 ·cases hx;cases hy
  have:=ziM (P:=P) (ρ:=ρ) t hk w
  exact ⟨this.1,this.2,fun op ox oy=>by cases op<;>simp [eqGuard]⟩
 ·cases hk
theorem zjU {o:UnOp} {x x' v:Value} (hx:VRel P ρ x x') (hk:kUn o x=some v) (w:World):(Op.unary o x').run P w= .ok v w∧VRel P ρ v v:=by
 unfold kUn at hk
 split at hk
 ·cases hx
  cases o<;>simp only at hk<;>first
   |(cases hk;done)
   |(cases hk;exact ⟨by simp [Op.unary,Op.intArith,Op.intBits],.int _ _⟩)
 ·cases hx
  cases o<;>simp only at hk<;>first
   |(cases hk;done)
   |(cases hk;exact ⟨by simp [Op.unary],.bool _⟩)
 ·cases hk
theorem ziO {src dst:TypeId} {d:TypeDesc} {k:IntKind} (hs:P.underlying src=some d) (hd:P.underlying dst=some (.int k)) (j:IntKind) (n:Int) (w:World):
  (convert src dst (.int j n)).run P w= .ok (.int k (k.wrap n)) w:=by
 simp [convert,run_underlying hs,run_underlying hd,Conv.intToInt]
theorem zik:∀{x:Value} {l:List Value} {v:Value},kMx x l=some v→∀w:World,(l.foldlM Builtin.max2 x).run P w= .ok v w∧VRel P ρ v v∧VRel P ρ x x∧∀y∈l,∃k n,y= .int k n
 |x,[],v,hk,w=>by
  cases x<;>simp [kMx] at hk
  subst hk
  exact ⟨by simp [List.foldlM],.int _ _,.int _ _,by simp⟩
 |x,y::l,v,hk,w=>by
  cases x<;>cases y<;>simp only [kMx] at hk<;>first
   |(cases hk;done)
   |(rename_i k a j b
     obtain ⟨h1,h2,h3,h4⟩:=zik hk w
     refine ⟨?_,h2,.int _ _,?_⟩
     ·simp only [List.foldlM_cons,Sem.run_bind,Builtin.max2,Sem.run_pure,Result.andThen_ok]
      exact h1
     ·intro y hy
      rcases List.mem_cons.1 hy with rfl|hy
      ·exact ⟨_,_,rfl⟩
      ·exact h4 y hy)
theorem zil:∀{x:Value} {l:List Value} {v:Value},kMn x l=some v→∀w:World,(l.foldlM Builtin.min2 x).run P w= .ok v w∧VRel P ρ v v∧VRel P ρ x x∧∀y∈l,∃k n,y= .int k n
 |x,[],v,hk,w=>by
  cases x<;>simp [kMn] at hk
  subst hk
  exact ⟨by simp [List.foldlM],.int _ _,.int _ _,by simp⟩
 |x,y::l,v,hk,w=>by
  cases x<;>cases y<;>simp only [kMn] at hk<;>first
   |(cases hk;done)
   |(rename_i k a j b
     obtain ⟨h1,h2,h3,h4⟩:=zil hk w
     refine ⟨?_,h2,.int _ _,?_⟩
     ·simp only [List.foldlM_cons,Sem.run_bind,Builtin.min2,Sem.run_pure,Result.andThen_ok]
      exact h1
     ·intro y hy
      rcases List.mem_cons.1 hy with rfl|hy
      ·exact ⟨_,_,rfl⟩
      ·exact h4 y hy)
theorem zaE {t:TypeId} {d:TypeDesc} (hd:P.underlying t=some d) (hna:zav d=false) (cs:Array Value) (off:Nat) (v:Value)
  (h:cs[off]? =some v) (w:World):(part t cs off).run P w= .ok v w:=by
 cases d<;>simp_all [zav,part,isAgg,run_underlying hd]
theorem zei {xs ys:Array Value} {off n:Nat} {l:List Value} (hs:xs.size=ys.size) (h:∀(i:Nat) x y,xs[i]? =some x→ys[i]? =some y→VRel P ρ x y)
  (ho:∀(i:Nat) x,xs[i]? =some x→zaq x=true) (hr:rd xs.toList off n=some l):VRel P ρ (.agg l.toArray) (.agg (ys.extract off (off+n))):=by
 obtain ⟨h1,rfl⟩:=rd_some hr
 have e:ys.extract off (off+n)=((ys.toList.drop off).take n).toArray:=by
  apply Array.ext'
  simp [List.take_drop,Nat.add_comm]
 rw [e]
 exact zeX (((VL.arr hs h).drop off).take n) (fun x hx=>by
  have hx:=List.mem_of_mem_drop (List.mem_of_mem_take hx)
  obtain ⟨i,hi⟩:=List.mem_iff_getElem?.1 hx
  exact ho i x (by simpa using hi))
theorem zcq {t:TypeId} {d:TypeDesc} {i:TypeInfo} (hd:P.underlying t=some d) (ha:zav d=true) (hi:P.info? t=some i)
  (cs:Array Value) (off:Nat) (w:World):(part t cs off).run P w= .ok (.agg (cs.extract off (off+i.size))) w:=by
 cases d<;>simp_all [zav,part,isAgg,run_underlying hd,sizeOf,typeInfo]
theorem ziP {t:TypeId} {fs:Array Field} {f:Field} {n:Nat} {d:TypeDesc} (ht:P.underlying t=some (.struct fs)) (hf:fs[n]? =some f) (hd:P.underlying f.type=some d)
  (hna:zav d=false) {x' v:Value} {cs:Array Value} (hx:VRel P ρ (.agg cs) x') (hk:cs.toList[f.offset]? =some v) (w:World):
  ∃v',(Instr.field t x' n).run P w= .ok v' w∧VRel P ρ v v':=by
 cases hx with
 |agg hs h ho=>
  rename_i ys
  obtain ⟨y,hy,hv⟩:=(VL.arr hs h).get hk
  exact ⟨y,by simp [Instr.field,run_underlying ht,hf,asAgg,zaE hd hna ys f.offset y (by simpa using hy)],hv⟩
theorem zhv {t:TypeId} {fs:Array Field} {f:Field} {n:Nat} {d:TypeDesc} {i:TypeInfo} (ht:P.underlying t=some (.struct fs)) (hf:fs[n]? =some f) (hd:P.underlying f.type=some d)
  (ha:zav d=true) (hi:P.info? f.type=some i) {x':Value} {l:List Value} {cs:Array Value} (hx:VRel P ρ (.agg cs) x')
  (hk:rd cs.toList f.offset i.size=some l) (w:World):∃v',(Instr.field t x' n).run P w= .ok v' w∧VRel P ρ (.agg l.toArray) v':=by
 cases hx with
 |agg hs h ho=>
  rename_i ys
  exact ⟨_,by simp [Instr.field,run_underlying ht,hf,asAgg,zcq hd ha hi ys f.offset],zei hs h ho hk⟩
theorem ziQ {t e:TypeId} {len:Nat} {d:TypeDesc} {i:TypeInfo} (ht:P.underlying t=some (.array len e)) (hd:P.underlying e=some d) (hi:P.info? e=some i) (h1:i.size=1)
  (hna:zav d=false) {x' v:Value} {cs:Array Value} {k:IntKind} {j:Int} (hx:VRel P ρ (.agg cs) x') (hj:0≤j∧j< len) (hk:cs.toList[j.toNat]? =some v) (w:World):
  ∃v',(Instr.index t x' (.int k j)).run P w= .ok v' w∧VRel P ρ v v':=by
 cases hx with
 |agg hs h ho=>
  rename_i ys
  obtain ⟨y,hy,hv⟩:=(VL.arr hs h).get hk
  exact ⟨y,by simp [Instr.index,asIntOf,run_underlying ht,hj,sizeOf,typeInfo,hi,h1,zaE hd hna ys j.toNat y (by simpa using hy)],hv⟩
theorem zhw {t e:TypeId} {len:Nat} {d:TypeDesc} {i:TypeInfo} (ht:P.underlying t=some (.array len e)) (hd:P.underlying e=some d) (hi:P.info? e=some i)
  (ha:zav d=true) {x':Value} {l:List Value} {cs:Array Value} {k:IntKind} {j:Int} (hx:VRel P ρ (.agg cs) x') (hj:0≤j∧j< len)
  (hk:rd cs.toList (j.toNat*i.size) i.size=some l) (w:World):∃v',(Instr.index t x' (.int k j)).run P w= .ok v' w∧VRel P ρ (.agg l.toArray) v':=by
 cases hx with
 |agg hs h ho=>
  rename_i ys
  exact ⟨_,by simp [Instr.index,asIntOf,run_underlying ht,hj,sizeOf,typeInfo,hi,zcq hd ha hi ys (j.toNat*i.size)],zei hs h ho hk⟩
theorem ziR {t:TypeId} (ht:P.underlying t=some .string) (s:ByteArray) {k:IntKind} {j:Int} {b:UInt8} (hj:0≤j) (hk:s.data.toList[j.toNat]? =some b) (w:World):
  (Instr.index t (.string s) (.int k j)).run P w= .ok (.int .u8 b.toNat) w:=by
 have hs:s[j.toNat]? =some b:=by
  have hlt:j.toNat< s.data.toList.length:=(List.getElem?_eq_some_iff.1 hk).1
  have hlt':j.toNat< s.size:=by simpa using hlt
  have:=(List.getElem?_eq_some_iff.1 hk).2
  rw [getElem?_pos s j.toNat hlt']
  congr 1
 simp [Instr.index,asIntOf,run_underlying ht,hj,hs]
theorem ziS {t:TypeId} {fs:Array Field} {f:Field} {n:Nat} {i:TypeInfo} (ht:P.underlying t=some (.struct fs)) (hf:fs[n]? =some f) (hi:P.info? f.type=some i) (h0:i.size≠0) {x':Value} {a:Addr}
  (hx:VRel P ρ (.pointer (some a)) x') (w:World):∃v',(Instr.fieldAt t x' n).run P w= .ok v' w∧VRel P ρ (.pointer (some (zal a f.offset))) v':=by
 obtain ⟨L,hs,hL,rfl⟩:=hx.pointer_inv
 refine ⟨.pointer (some ⟨L.block,L.off+a.off+f.offset,none⟩),?_,?_⟩
 ·simp [Instr.fieldAt,run_underlying ht,hf,Instr.sureAddr,fieldPlace,sizeOf,typeInfo,hi,h0,Addr.add_lit]
 ·have:=VRel.ptr (P:=P) (off:=a.off+f.offset) hL
  simpa [zal,Nat.add_assoc] using this
theorem ziT {t e:TypeId} {i:TypeInfo} (ht:P.underlying t=some (.slice e)) (hi:P.info? e=some i) {x':Value} {a:Addr} {n c:Nat} {k:IntKind} {j:Int} (hx:VRel P ρ (.slice (some a) n c) x') (hj:0≤j∧j< n)
  (w:World):∃v',(Instr.indexAt t x' (.int k j)).run P w= .ok v' w∧VRel P ρ (.pointer (some (zal a (j.toNat*i.size)))) v':=by
 cases hx with
 |sl hL hn hc hs=>
  rename_i b off c' L
  refine ⟨.pointer (some ⟨L.block,L.off+off+j.toNat*i.size,none⟩),?_,?_⟩
  ·simp [Instr.indexAt,asIntOf,run_underlying ht,hj,sizeOf,typeInfo,hi,Addr.add_lit]
  ·have:=VRel.ptr (P:=P) (off:=off+j.toNat*i.size) hL
   simpa [zal,Nat.add_assoc] using this
 |sl0=>omega
theorem zhx {t e:TypeId} {i:TypeInfo} {len:Nat} (ht:P.underlying t=some (.array len e)) (hi:P.info? e=some i) {x':Value} {a:Addr} {k:IntKind} {j:Int} (hx:VRel P ρ (.pointer (some a)) x') (hj:0≤j∧j< len)
  (w:World):∃v',(Instr.indexAt t x' (.int k j)).run P w= .ok v' w∧VRel P ρ (.pointer (some (zal a (j.toNat*i.size)))) v':=by
 obtain ⟨L,hs,hL,rfl⟩:=hx.pointer_inv
 refine ⟨.pointer (some ⟨L.block,L.off+a.off+j.toNat*i.size,none⟩),?_,?_⟩
 ·simp [Instr.indexAt,Instr.sureAddr,asIntOf,run_underlying ht,hj,sizeOf,typeInfo,hi,Addr.add_lit]
 ·have:=VRel.ptr (P:=P) (off:=a.off+j.toNat*i.size) hL
  simpa [zal,Nat.add_assoc] using this
def zcU (P:Program) (t:TypeId):EqS→Prop
 | .int=>∃k,P.underlying t=some (.int k)
 | .str=>P.underlying t=some .string
 | .bool=>P.underlying t=some .bool
theorem zcU.one {t:TypeId} {k:EqS} (h:zcU P t k):∃d,P.underlying t=some d∧zav d=false:=by
 cases k
 ·obtain ⟨k,h⟩:=h;exact ⟨_,h,rfl⟩
 ·exact ⟨_,h,rfl⟩
 ·exact ⟨_,h,rfl⟩
theorem zcr {k:EqS} {x y:Value} {b:Bool} (h:zb4 k x y=some b):(∀x',VRel P ρ x x'→x'=x)∧(∀y',VRel P ρ y y'→y'=y):=by
 unfold zb4 at h
 split at h
 ·exact ⟨fun x' hx=>by cases hx;rfl,fun y' hy=>by cases hy;rfl⟩
 ·exact ⟨fun x' hx=>by cases hx;rfl,fun y' hy=>by cases hy;rfl⟩
 ·exact ⟨fun x' hx=>by cases hx;rfl,fun y' hy=>by cases hy;rfl⟩
 ·cases h
theorem eq1_ok {t:TypeId} {k:EqS} (ht:zcU P t k) {x y:Value} {b:Bool} (h:zb4 k x y=some b) (d:Nat) (w:World):(Op.equalIn (d+1) t x y).run P w= .ok b w:=by
 unfold zb4 at h
 split at h
 ·cases h;exact run_equalIn_bool' w d t _ _ ht
 ·obtain ⟨k',ht⟩:=ht
  split at h
  ·rename_i hk;subst hk;cases h;exact run_equalIn_int w d t _ _ _ _ ht
  ·cases h
 ·cases h;exact run_equalIn_string w d t _ _ ht
 ·cases h
def zej (P:Program):List Field→Nat→List EqS→Prop
 | [],_,[]=>True
 |f::fs,j,k::ks=>f.name≠ "_"∧f.offset=j∧zcU P f.type k∧zej P fs (j+1) ks
 |_,_,_=>False
theorem zgf (d:Nat) {xs ys xs' ys':Array Value} (hxs:VL P ρ xs.toList xs'.toList) (hys:VL P ρ ys.toList ys'.toList):∀(fs:List Field) (j:Nat) (ks:List EqS) (b:Bool),zej P fs j ks→
  zbN ks (xs.toList.drop j) (ys.toList.drop j)=some b→∀w:World,(Op.eqFields (d+1) xs' ys' fs).run P w= .ok b w
 | [],j,ks,b,hf,hk,w=>by
   cases ks with
   |cons k ks=>exact hf.elim
   |nil=>
    cases hx:xs.toList.drop j<;>cases hy:ys.toList.drop j<;>simp [hx,hy,zbN] at hk
    subst hk
    simp [Op.eqFields]
 |f::fs,j,ks,b,hf,hk,w=>by
  cases ks with
  |nil=>exact hf.elim
  |cons k ks=>
   obtain ⟨hn,ho,ht,hf⟩:=hf
   cases hx:xs.toList.drop j with
   |nil=>simp [hx,zbN] at hk
   |cons x xr=>
    cases hy:ys.toList.drop j with
    |nil=>simp [hx,hy,zbN] at hk
    |cons y yr=>
     simp only [hx,hy,zbN] at hk
     have hxj:xs.toList[j]? =some x:=by have:=congrArg (·[0]?) hx;simpa using this
     have hyj:ys.toList[j]? =some y:=by have:=congrArg (·[0]?) hy;simpa using this
     have hxr:xr=xs.toList.drop (j+1):=by have:=congrArg List.tail hx;simpa using this.symm
     have hyr:yr=ys.toList.drop (j+1):=by have:=congrArg List.tail hy;simpa using this.symm
     cases h1:zb4 k x y with
     |none=>simp [h1] at hk
     |some r=>
      obtain ⟨ex,ey⟩:=zcr (P:=P) (ρ:=ρ) h1
      obtain ⟨x',hx',hvx⟩:=hxs.get hxj
      obtain ⟨y',hy',hvy⟩:=hys.get hyj
      rw [ex x' hvx] at hx'
      rw [ey y' hvy] at hy'
      obtain ⟨dd,hd,hna⟩:=ht.one
      have p1:=zaE hd hna xs' j x (by simpa using hx') w
      have p2:=zaE hd hna ys' j y (by simpa using hy') w
      have e1:=eq1_ok ht h1 d w
      simp only [h1,Option.bind_some] at hk
      simp only [Op.eqFields,hn,ne_eq,not_false_eq_true,if_true,ho,Sem.run_bind,p1,p2,e1,Result.andThen_ok]
      cases r with
      |false=>
       simp only [Bool.false_eq_true,if_false] at hk
       split at hk
       ·cases hk;simp
       ·cases hk
      |true=>
       simp only [if_true] at hk
       rw [hxr,hyr] at hk
       have:=zgf d hxs hys fs (j+1) ks b hf hk w
       simpa using this
def EqT (P:Program) (t:TypeId):EqK→Prop
 | .s k=>zcU P t k
 | .ptr=>∃e,P.underlying t=some (.pointer e)
 | .slice=>∃e,P.underlying t=some (.slice e)
 | .map=>∃k e,P.underlying t=some (.map k e)
 | .func=>∃a b c,P.underlying t=some (.func a b c)
 | .ifc=>∃a,P.underlying t=some (.interface a)
 | .agg ks=>P.eqGuardType P.depth t=false∧
  ((∃fs,P.underlying t=some (.struct fs)∧P.stoodInHeld t=false∧zej P fs.toList 0 ks)∨
   (∃n e k i,P.underlying t=some (.array n e)∧P.info? e=some i∧i.size=1∧zcU P e k∧ks=List.replicate n k))
theorem zfR (d:Nat) {e:TypeId} {i:TypeInfo} {k:EqS} (hi:P.info? e=some i) (h1:i.size=1) (he:zcU P e k) {xs ys xs' ys':Array Value} (hxs:VL P ρ xs.toList xs'.toList) (hys:VL P ρ ys.toList ys'.toList):
  ∀(n j:Nat) (b:Bool),zbN (List.replicate n k) (xs.toList.drop j) (ys.toList.drop j)=some b→∀w:World,
   (ForIn.forIn (m:=Sem) (List.range' j n) ((none:Option Bool),()) fun (i_1:Nat) (r:Option Bool×Unit)=>do
    let a ←part e xs' (i_1*i.size)
    let c ←part e ys' (i_1*i.size)
    let r1 ←Op.equalIn (d+1) e a c
    if (!r1)=true then pure (ForInStep.done (some false,())) else pure (ForInStep.yield (none,()))).run P w= .ok (if b then none else some false,()) w:=by
 intro n
 induction n with
 |zero=>
  intro j b hk w
  simp only [List.replicate_zero] at hk
  cases hx:xs.toList.drop j<;>cases hy:ys.toList.drop j<;>simp [hx,hy,zbN] at hk
  subst hk
  simp
 |succ n ih=>
  intro j b hk w
  cases hx:xs.toList.drop j with
  |nil=>simp [hx,zbN,List.replicate_succ] at hk
  |cons x xr=>
   cases hy:ys.toList.drop j with
   |nil=>simp [hx,hy,zbN,List.replicate_succ] at hk
   |cons y yr=>
    simp only [hx,hy,zbN,List.replicate_succ] at hk
    have hxj:xs.toList[j]? =some x:=by have:=congrArg (·[0]?) hx;simpa using this
    have hyj:ys.toList[j]? =some y:=by have:=congrArg (·[0]?) hy;simpa using this
    have hxr:xr=xs.toList.drop (j+1):=by have:=congrArg List.tail hx;simpa using this.symm
    have hyr:yr=ys.toList.drop (j+1):=by have:=congrArg List.tail hy;simpa using this.symm
    cases hq:zb4 k x y with
    |none=>simp [hq] at hk
    |some r=>
     obtain ⟨ex,ey⟩:=zcr (P:=P) (ρ:=ρ) hq
     obtain ⟨x',hx',hvx⟩:=hxs.get hxj
     obtain ⟨y',hy',hvy⟩:=hys.get hyj
     rw [ex x' hvx] at hx'
     rw [ey y' hvy] at hy'
     obtain ⟨dd,hd,hna⟩:=he.one
     have p1:=zaE hd hna xs' (j*i.size) x (by rw [h1];simpa using hx') w
     have p2:=zaE hd hna ys' (j*i.size) y (by rw [h1];simpa using hy') w
     have e1:=eq1_ok he hq d w
     simp only [hq,Option.bind_some] at hk
     simp only [List.range'_succ,List.forIn_cons,Sem.run_bind,p1,p2,e1,Result.andThen_ok]
     cases r with
     |false=>
      simp only [Bool.false_eq_true,if_false] at hk
      split at hk
      ·cases hk;simp
      ·cases hk
     |true=>
      simp only [if_true] at hk
      rw [hxr,hyr] at hk
      simpa using ih (j+1) b hk w
set_option maxHeartbeats 1000000 in
theorem zgg {t:TypeId} {kk:EqK} (ht:EqT P t kk) {x y x' y':Value} {b:Bool} (hx:VRel P ρ x x') (hy:VRel P ρ y y') (hk:kEq kk x y=some b) (d:Nat) (w:World):
  (Op.equalIn (d+2) t x' y').run P w= .ok b w:=by
 unfold kEq at hk
 split at hk
 ·obtain ⟨e1,e2⟩:=zcr (P:=P) (ρ:=ρ) hk
  rw [e1 x' hx,e2 y' hy]
  exact eq1_ok ht hk (d+1) w
 ·obtain ⟨e,ht⟩:=ht
  cases hx;cases hk
  cases hy<;>(rw [Op.equalIn];simp [run_underlying ht])
 ·obtain ⟨e,ht⟩:=ht
  cases hx;cases hk;cases hy
  (rw [Op.equalIn];simp [run_underlying ht])
 ·obtain ⟨e,ht⟩:=ht
  cases hx;cases hk
  cases hy<;>(rw [Op.equalIn];simp [run_underlying ht])
 ·obtain ⟨e,ht⟩:=ht
  cases hk
  cases hx<;>cases hy<;>(rw [Op.equalIn];simp [run_underlying ht])
 ·obtain ⟨k,e,ht⟩:=ht
  cases hx;cases hk
  cases hy<;>(rw [Op.equalIn];simp [run_underlying ht])
 ·obtain ⟨k,e,ht⟩:=ht
  cases hk
  cases hx;cases hy
  (rw [Op.equalIn];simp [run_underlying ht])
 ·obtain ⟨a,b,c,ht⟩:=ht
  cases hx;cases hk;cases hy
  (rw [Op.equalIn];simp [run_underlying ht])
 ·obtain ⟨a,b,c,ht⟩:=ht
  cases hk;cases hx;cases hy
  (rw [Op.equalIn];simp [run_underlying ht])
 ·obtain ⟨a,ht⟩:=ht
  cases hx;cases hk;cases hy
  (rw [Op.equalIn];simp [run_underlying ht])
 ·obtain ⟨a,ht⟩:=ht
  cases hk;cases hx;cases hy
  (rw [Op.equalIn];simp [run_underlying ht])
 ·rename_i ks xs ys
  obtain ⟨hgt,hor⟩:=ht
  cases hx with
  |agg hs1 h1 ho1=>
   rename_i xs'
   cases hy with
   |agg hs2 h2 ho2=>
    rename_i ys'
    rcases hor with ⟨fs,htt,hst,hfl⟩|⟨n,e,k,i,htt,hi,hi1,hek,rfl⟩
    ·have hff:P.fieldsOf t=fs:=by simp [Program.fieldsOf,htt]
     rw [run_equalIn_struct w (d+1) t xs' ys' (by rw [hff];exact htt) hst,hff]
     exact zgf d (VL.arr hs1 h1) (VL.arr hs2 h2) fs.toList 0 ks b hfl (by simpa using hk) w
    ·have:=zfR d hi hi1 hek (VL.arr hs1 h1) (VL.arr hs2 h2) n 0 b (by simpa using hk) w
     have hsz:∀w:World,(sizeOf e).run P w= .ok i.size w:=fun w=>by simp [sizeOf,typeInfo,hi]
     rw [Op.equalIn]
     simp only [Sem.run_bind,run_underlying htt,Result.andThen_ok,hsz,Std.Legacy.Range.forIn_eq_forIn_range',Std.Legacy.Range.size,Nat.sub_zero,Nat.add_sub_cancel,Nat.div_one,this]
     cases b<;>simp
 ·cases hk
end
section
variable {P:Program} {B:Fz} {w0 w:World} {ρ:Rho} {H:Heap}
theorem ziU {t:TypeId} {kk:EqK} (ht:EqT P t kk) (h1:kk≠ .s .int) (h2:kk≠ .s .str) {x y x' y':Value} {b:Bool} (hx:VRel P ρ x x') (hy:VRel P ρ y y') (hk:kEq kk x y=some b) (neg:Bool)
  (ox oy:Operand) (hc:kk= .ifc→∃v,oy= .const v) (w:World):
  (do eqGuard (if neg then .neq else .eql) t ox oy x' y';binOp (if neg then .neq else .eql) t x' y').run P w= .ok (.bool (b !=neg)) w:=by
 have he:=zgg ht hx hy hk 9998 w
 have he':(Op.equal t x' y').run P w= .ok b w:=he
 unfold kEq at hk
 split at hk
 ·rename_i q
  cases q with
  |int=>exact absurd rfl h1
  |str=>exact absurd rfl h2
  |bool=>
   unfold zb4 at hk
   split at hk
   ·cases hx;cases hy
    cases neg<;>simp [eqGuard,binOp,he']
   ·rename_i h;cases h
   ·rename_i h;cases h
   ·cases hk
 ·cases hx
  cases hy<;>cases neg<;>simp [eqGuard,binOp,he']
 ·cases hx;cases hy
  cases neg<;>simp [eqGuard,binOp,he']
 ·cases hx
  cases hy<;>cases neg<;>simp [eqGuard,binOp,he']
 ·cases hx<;>cases hy<;>cases neg<;>simp [eqGuard,binOp,he']
 ·cases hx
  cases hy<;>cases neg<;>simp [eqGuard,binOp,he']
 ·cases hx;cases hy
  cases neg<;>simp [eqGuard,binOp,he']
 ·cases hx;cases hy
  cases neg<;>simp [eqGuard,binOp,he']
 ·cases hx;cases hy
  cases neg<;>simp [eqGuard,binOp,he']
 ·cases hx;cases hy
  obtain ⟨v,rfl⟩:=hc rfl
  cases neg<;>simp [eqGuard,binOp,he']
 ·cases hx;cases hy
  cases neg<;>simp [eqGuard,binOp,he']
 ·cases hx;cases hy
  have hgt:=ht.1
  cases neg<;>simp [run_eqGuard_agg _ _ _ _ _ _ _ hgt,binOp,he']
 ·cases hk
theorem zek {k:EqS} {x x':Value} (h:zbm k x=true) (hx:VRel P ρ x x'):x'=x:=by
 unfold zbm at h
 split at h<;>first
  |(cases h;done)
  |(cases hx;rfl)
theorem zel:∀{ks:List EqS} {xs xs':List Value},za8 ks xs=true→VL P ρ xs xs'→xs'=xs
 | [],[],xs',_,hv=>List.eq_nil_of_length_eq_zero (by have:=hv.1;simpa using this.symm)
 | [],_::_,_,h,_=>by simp [za8] at h
 |_::_,[],_,h,_=>by simp [za8] at h
 |k::ks,x::xs,xs',h,hv=>by
  cases xs' with
  |nil=>have:=hv.1;simp at this
  |cons y ys=>
   simp only [za8,Bool.and_eq_true] at h
   have h0:=hv.2 0 x y rfl rfl
   rw [zek h.1 h0,zel h.2 (xs':=ys) ⟨by have:=hv.1;simpa using this,fun i a b ha hb=>hv.2 (i+1) a b (by simpa using ha) (by simpa using hb)⟩]
theorem zb0 {kk:EqK} {x x':Value} (h:zbd kk x=true) (hx:VRel P ρ x x'):x'=x:=by
 unfold zbd at h
 split at h
 ·exact zek h hx
 ·cases hx with
  |agg hs hv ho=>rw [Array.ext' (zel h (VL.arr hs hv))]
 ·cases h
theorem bits1 {k:EqS} {x:Value} (h:zbm k x=true) (n:Nat):Instr.sameBits n x x=true:=by
 unfold zbm at h
 split at h<;>first
  |(cases h;done)
  |(cases n<;>simp [Instr.sameBits,beq_toListBytes];done)
theorem zim (n:Nat):∀{ks:List EqS} {xs:List Value},za8 ks xs=true→((xs.zip xs).all fun (x,y)=>Instr.sameBits n x y)=true
 | [],[],_=>rfl
 | [],_::_,h=>by simp [za8] at h
 |_::_,[],h=>by simp [za8] at h
 |k::ks,x::xs,h=>by
  simp only [za8,Bool.and_eq_true] at h
  simp only [List.zip_cons_cons,List.all_cons,Bool.and_eq_true]
  exact ⟨bits1 h.1 n,zim n h.2⟩
theorem bits {kk:EqK} {x:Value} (h:zbd kk x=true) (n:Nat):Instr.sameBits (n+1) x x=true:=by
 unfold zbd at h
 split at h
 ·exact bits1 h _
 ·simp only [Instr.sameBits,Bool.and_eq_true]
  exact ⟨by simp,zim n h⟩
 ·cases h
theorem zdw {k:EqS} {x y:Value} (h:zb4 k x y=some true):x=y:=by
 unfold zb4 at h
 split at h
 ·simp at h;rw [h]
 ·split at h
  ·rename_i hk;simp at h;rw [hk,h]
  ·cases h
 ·rename_i a b
  simp at h
  have:a=b:=by
   rw [ByteArray.toList_eq,ByteArray.toList_eq] at h
   exact ByteArray.ext (Array.ext' h)
  rw [this]
 ·cases h
theorem zdx:∀{ks:List EqS} {xs ys:List Value},zbN ks xs ys=some true→xs=ys
 | [],[],[],_=>rfl
 |k::ks,x::xs,y::ys,h=>by
  simp only [zbN] at h
  cases h1:zb4 k x y with
  |none=>simp [h1] at h
  |some b=>
   cases b with
   |true=>simp [h1] at h;rw [zdw h1,zdx h]
   |false=>
    simp only [h1,Option.bind_some,Bool.false_eq_true,if_false] at h
    split at h<;>simp at h
 | [],_::_,_,h=>by simp [zbN] at h
 | [],[],_::_,h=>by simp [zbN] at h
 |_::_,[],_,h=>by simp [zbN] at h
 |_::_,_::_,[],h=>by simp [zbN] at h
theorem zgh {kk:EqK} {x y:Value} (hk:zbd kk x=true) (h:kEq kk x y=some true):x=y:=by
 cases kk with
 |s k=>exact zdw h
 |agg ks=>
  cases x<;>simp only [zbd] at hk<;>try cases hk
  cases y<;>simp only [kEq] at h<;>try cases h
  rw [Array.ext' (zdx h)]
 |_=>simp [zbd] at hk
theorem zbP {α:Type} (f:α→Sem (ForInStep PUnit)):∀(l:List α),(∀a∈l,∀w:World,(f a).run P w= .ok (.yield ⟨⟩) w)→∀w:World,
  (ForIn.forIn (m:=Sem) l PUnit.unit fun a _=>f a).run P w= .ok ⟨⟩ w
 | [],_,w=>by simp
 |a::l,h,w=>by
  simp only [List.forIn_cons,Sem.run_bind,h a (by simp) w,Result.andThen_ok]
  exact zbP f l (fun b hb=>h b (by simp [hb])) w
theorem chk1 {t:TypeId} {k:EqS} (ht:zcU P t k) {x:Value} (h:zbm k x=true) (em:Bool) (n:Nat) (w:World):(Instr.checkKey em (n+1) t x).run P w= .ok () w:=by
 unfold zbm at h
 split at h
 ·obtain ⟨k',ht⟩:=ht;rw [Instr.checkKey];simp [run_underlying ht]
 ·rw [Instr.checkKey];simp [run_underlying (show P.underlying t=some .string from ht)]
 ·rw [Instr.checkKey];simp [run_underlying (show P.underlying t=some .bool from ht)]
 ·cases h
theorem zfm:∀{fs:List Field} {j:Nat} {ks:List EqS},zej P fs j ks→fs.length=ks.length∧∀(i:Nat) f,fs[i]? =some f→f.name≠ "_"∧f.offset=j+i∧∃k,ks[i]? =some k∧zcU P f.type k
 | [],j,[],_=>⟨rfl,fun i f h=>by simp at h⟩
 | [],_,_::_,h=>h.elim
 |_::_,_,[],h=>h.elim
 |f::fs,j,k::ks,⟨h1,h2,h3,h4⟩=>by
  obtain ⟨a,b⟩:=zfm h4
  refine ⟨by simp [a],fun i g hg=>?_⟩
  cases i with
  |zero=>simp at hg;subst hg;exact ⟨h1,by simpa using h2,k,rfl,h3⟩
  |succ i=>
   simp at hg
   obtain ⟨c1,c2,c3⟩:=b i g hg
   exact ⟨c1,by omega,by simpa using c3⟩
theorem zdM:∀{ks:List EqS} {xs:List Value},za8 ks xs=true→∀(i:Nat) k,ks[i]? =some k→∃x,xs[i]? =some x∧zbm k x=true
 | [],[],_,i,k,h=>by simp at h
 | [],_::_,h,_,_,_=>by simp [za8] at h
 |_::_,[],h,_,_,_=>by simp [za8] at h
 |k::ks,x::xs,h,i,q,hq=>by
  simp only [za8,Bool.and_eq_true] at h
  cases i with
  |zero=>simp at hq;subst hq;exact ⟨x,rfl,h.1⟩
  |succ i=>simp at hq;simpa using zdM h.2 i q hq
theorem zda {t:TypeId} {kk:EqK} (ht:EqT P t kk) {x:Value} (h:zbd kk x=true) (em:Bool) (n:Nat) (w:World):(Instr.checkKey em (n+2) t x).run P w= .ok () w:=by
 unfold zbd at h
 split at h
 ·exact chk1 ht h em (n+1) w
 ·rename_i ks xs
  obtain ⟨_,⟨fs,htt,_,hfl⟩|⟨len,e,k,i,htt,hi,hi1,hek,rfl⟩⟩:=ht
  ·obtain ⟨hlen,hat⟩:=zfm hfl
   rw [Instr.checkKey]
   simp only [Sem.run_bind,run_underlying htt,Result.andThen_ok]
   rw [←Array.forIn_toList]
   have:=zbP (P:=P) (fun f:Field=>if f.name≠ "_" then do
     let a ←part f.type xs f.offset
     Instr.checkKey em (n+1) f.type a
     pure (ForInStep.yield PUnit.unit) else pure (ForInStep.yield PUnit.unit)) fs.toList (fun f hf w=>by
    obtain ⟨j,hj⟩:=List.mem_iff_getElem?.1 hf
    obtain ⟨c1,c2,k,hk,hks⟩:=hat j f hj
    obtain ⟨x,hx,hkx⟩:=zdM h j k hk
    obtain ⟨d,hd,hna⟩:=hks.one
    have p1:=zaE hd hna xs f.offset x (by rw [c2];simpa using hx) w
    simp [c1,p1,chk1 hks hkx]) w
   simp at this⊢
   rw [this];rfl
  ·rw [Instr.checkKey]
   have hsz:∀w:World,(sizeOf e).run P w= .ok i.size w:=fun w=>by simp [sizeOf,typeInfo,hi]
   simp only [Sem.run_bind,run_underlying htt,Result.andThen_ok,Std.Legacy.Range.forIn_eq_forIn_range',Std.Legacy.Range.size,Nat.sub_zero,Nat.add_sub_cancel,Nat.div_one]
   have:=zbP (P:=P) (fun j:Nat=>do
     let a ←sizeOf e
     let a ←part e xs (j*a)
     Instr.checkKey em (n+1) e a
     pure (ForInStep.yield PUnit.unit)) (List.range' 0 len) (fun j hj w=>by
    have hjl:j< len:=by have:=List.mem_range'_1.1 hj;omega
    obtain ⟨x,hx,hkx⟩:=zdM h j k (by simp [hjl])
    obtain ⟨d,hd,hna⟩:=hek.one
    have p1:=zaE hd hna xs (j*i.size) x (by rw [hi1];simpa using hx) w
    simp [hsz,p1,chk1 hek hkx]) w
   simp at this⊢
   rw [this];rfl
 ·cases h
def MR (P:Program) (ρ:Rho) (es es':List MapEntry):Prop:=es'.length=es.length∧∀(i:Nat) x y,es[i]? =some x→es'[i]? =some y→zbK P ρ x y
def zbC (r:Option (Nat×MapEntry)) (es':List MapEntry):Option (Nat×Value):=r.bind fun p=>(es'[p.1]?).map fun e=>(p.1,e.val)
theorem MR.tail {e e':MapEntry} {es es':List MapEntry} (h:MR P ρ (e::es) (e'::es')):zbK P ρ e e'∧MR P ρ es es':=
 ⟨h.2 0 e e' rfl rfl,by have:=h.1;simpa using this,fun i x y hx hy=>h.2 (i+1) x y (by simpa using hx) (by simpa using hy)⟩
theorem zb1 {kk:EqK} {k:Value}:∀{es:List MapEntry} {i:Nat} {r:Option (Nat×MapEntry)},zaC kk k es i=some r→∀p,r=some p→∃j,p.1=i+j∧es[j]? =some p.2∧kEq kk k p.2.key=some true
 | [],i,r,h,p,hp=>by simp [zaC] at h;subst h;cases hp
 |e::es,i,r,h,p,hp=>by
  simp only [zaC] at h
  cases h1:kEq kk k e.key with
  |none=>simp [h1] at h
  |some b=>
   cases b with
   |true=>simp [h1] at h;subst h;cases hp;exact ⟨0,rfl,rfl,h1⟩
   |false=>
    simp [h1] at h
    obtain ⟨j,a,b,c⟩:=zb1 h p hp
    exact ⟨j+1,by omega,by simpa using b,c⟩
theorem zgi {t:TypeId} {q:EqS} {d:TypeDesc} (ht:zcU P t q) (hd:P.underlying t=some d) {k:Value}:∀{es es':List MapEntry} {i:Nat} {r:Option (Nat×MapEntry)},MR P ρ es es'→zaC (.s q) k es i=some r→
  Instr.findNow d k es' i=some (r.bind fun p=>(es'[p.1 - i]?).map fun e=>(p.1,e.val))
 | [],es',i,r,hm,h=>by
   have:es'= []:=List.eq_nil_of_length_eq_zero (by have:=hm.1;simpa using this)
   subst this
   simp [zaC] at h;subst h;simp [Instr.findNow]
 |e::es,[],i,r,hm,h=>by have:=hm.1;simp at this
 |e::es,e'::es',i,r,hm,h=>by
  obtain ⟨he,hm'⟩:=hm.tail
  simp only [zaC,kEq] at h
  cases h1:zb4 q k e.key with
  |none=>simp [h1] at h
  |some b=>
   have hkey:e'.key=e.key:=(zcr (P:=P) (ρ:=ρ) h1).2 _ he.1
   have hsn:Instr.sameNow d k e'.key=some b:=by
    rw [hkey]
    generalize e.key=y at h1
    cases q with
    |int=>
     obtain ⟨kk,ht⟩:=ht;rw [ht] at hd;cases hd
     unfold zb4 at h1
     split at h1<;>first
      |(rename_i h;cases h;done)
      |(simp only [Instr.sameNow];exact h1)
      |cases h1
    |str=>
     rw [show P.underlying t=some .string from ht] at hd;cases hd
     unfold zb4 at h1
     split at h1<;>first
      |(rename_i h;cases h;done)
      |(simp only [Instr.sameNow,beq_toListBytes];exact h1)
      |cases h1
    |bool=>
     rw [show P.underlying t=some .bool from ht] at hd;cases hd
     unfold zb4 at h1
     split at h1<;>first
      |(rename_i h;cases h;done)
      |(simp only [Instr.sameNow];exact h1)
      |cases h1
   simp only [h1,Option.bind_some] at h
   simp only [Instr.findNow,hsn]
   cases b with
   |true=>simp at h;subst h;simp
   |false=>
    simp only [Bool.false_eq_true,if_false] at h
    rw [zgi ht hd hm' h]
    cases r with
    |none=>rfl
    |some p=>
     obtain ⟨j,hj,_,_⟩:=zb1 h p rfl
     simp only [Option.bind_some]
     rw [show p.1 - i=(p.1 - (i+1))+1 by omega]
     simp
theorem zdy {t:TypeId} {kk:EqK} (ht:EqT P t kk) {k k':Value} (hk:VRel P ρ k k'):∀{es es':List MapEntry} {i:Nat} {r:Option (Nat×MapEntry)},MR P ρ es es'→zaC kk k es i=some r→∀w:World,
  (Instr.findAsking t k' es' i).run P w= .ok (r.bind fun p=>(es'[p.1 - i]?).map fun e=>(p.1,e.val)) w
 | [],es',i,r,hm,h,w=>by
   have:es'= []:=List.eq_nil_of_length_eq_zero (by have:=hm.1;simpa using this)
   subst this
   simp [zaC] at h;subst h;simp [Instr.findAsking]
 |e::es,[],i,r,hm,h,w=>by have:=hm.1;simp at this
 |e::es,e'::es',i,r,hm,h,w=>by
  obtain ⟨he,hm'⟩:=hm.tail
  simp only [zaC] at h
  cases h1:kEq kk k e.key with
  |none=>simp [h1] at h
  |some b=>
   have he':(Op.equal t k' e'.key).run P w= .ok b w:=zgg ht hk he.1 h1 9998 w
   simp only [h1,Option.bind_some] at h
   simp only [Instr.findAsking,Sem.run_bind,he',Result.andThen_ok]
   cases b with
   |true=>simp at h;subst h;simp
   |false=>
    simp only [Bool.false_eq_true,if_false] at h⊢
    rw [zdy ht hk hm' h w]
    cases r with
    |none=>rfl
    |some p=>
     obtain ⟨j,hj,_,_⟩:=zb1 h p rfl
     simp only [Option.bind_some]
     rw [show p.1 - i=(p.1 - (i+1))+1 by omega]
     simp
theorem zbD {t:TypeId} {kk:EqK} (ht:EqT P t kk) {k:Value} (hkey:zbd kk k=true) {es es':List MapEntry} {r:Option (Nat×MapEntry)} (hm:MR P ρ es es') (h:zaC kk k es 0=some r) (w:World):
  (Instr.findKey t k es').run P w= .ok (zbC r es') w:=by
 have hv:VRel P ρ k k:=by
  unfold zbd at hkey
  split at hkey
  ·unfold zbm at hkey
   split at hkey<;>first
    |exact .int _ _
    |exact .string _
    |exact .bool _
    |cases hkey
  ·rename_i ks xs
   have h1:∀(i:Nat) x,xs[i]? =some x→∃k,zbm k x=true:=by
    intro i x hx
    have:∀(ks:List EqS) (l:List Value),za8 ks l=true→∀(i:Nat) x,l[i]? =some x→∃k,zbm k x=true:=by
     intro ks l
     induction l generalizing ks with
     |nil=>intro _ i x hx;simp at hx
     |cons y l ih=>
      intro h i x hx
      cases ks with
      |nil=>simp [za8] at h
      |cons k ks=>
       simp only [za8,Bool.and_eq_true] at h
       cases i with
       |zero=>simp at hx;subst hx;exact ⟨k,h.1⟩
       |succ i=>simp at hx;exact ih ks h.2 i x hx
    exact this ks xs.toList hkey i x (by simpa using hx)
   have h2:∀{k:EqS} {x:Value},zbm k x=true→VRel P ρ x x∧zaq x=true:=by
    intro k x h
    unfold zbm at h
    split at h<;>first
     |exact ⟨.int _ _,rfl⟩
     |exact ⟨.string _,rfl⟩
     |exact ⟨.bool _,rfl⟩
     |cases h
   exact .agg rfl (fun i x y hx hy=>by rw [hx] at hy;cases hy;obtain ⟨k,hk⟩:=h1 i x hx;exact (h2 hk).1) (fun i x hx=>by obtain ⟨k,hk⟩:=h1 i x hx;exact (h2 hk).2)
  ·cases hkey
 unfold Instr.findKey
 cases kk with
 |s q=>
  obtain ⟨d,hd,_⟩:=zcU.one (P:=P) ht
  have:=zgi (P:=P) (ρ:=ρ) ht hd hm h
  simp only [Sem.run_bind,run_underlying hd,Result.andThen_ok,this,Sem.run_pure]
  rfl
 |agg ks=>
  have hdd:∃d,P.underlying t=some d∧∀v y,Instr.sameNow d (.agg v) y=none:=by
   obtain ⟨_,⟨fs,htt,_⟩|⟨len,e,k,i,htt,_⟩⟩:=ht
   ·exact ⟨_,htt,fun v y=>by simp [Instr.sameNow]⟩
   ·exact ⟨_,htt,fun v y=>by simp [Instr.sameNow]⟩
  obtain ⟨d,hd,hsn⟩:=hdd
  cases k<;>simp only [zbd] at hkey<;>try cases hkey
  rename_i xs
  simp only [Sem.run_bind,run_underlying hd,Result.andThen_ok]
  cases es' with
  |nil=>
   have:es= []:=List.eq_nil_of_length_eq_zero (by have:=hm.1;simpa using this.symm)
   subst this
   simp [zaC] at h
   subst h
   simp [Instr.findNow,zbC]
  |cons e' es'=>
   simp only [Instr.findNow,hsn]
   have:=zdy ht hv hm h w
   rw [this]
   simp [zbC]
 |_=>simp [zbd] at hkey
theorem map_inv {b:Nat} {es:List MapEntry} {clock:Nat} {L:Loc} (h:HRel P B w0 ρ H w) (hg:H.get b= .map es clock) (hL:ρ[b]? =some L):
  ∃es':Array MapEntry,w.heap[L.block]? =some (.map es' clock)∧MR P ρ es es'.toList:=by
 have:=h.blk b L hL
 rw [hg] at this
 obtain ⟨es',h1,h2,h3⟩:=this
 exact ⟨es',h1,by simpa using h2,fun i x y hx hy=>h3 i x y hx (by simpa using hy)⟩
theorem zaK {r:Nat} {es:Array MapEntry} {c:Nat} (hr:w.heap[r]? =some (.map es c)):(getObj r).run P w= .ok (.map es c) w:=by
 simp [getObj,Sem.run,hr]
theorem zbE (h:HRel P B w0 ρ H w) {b:Nat} {es es2:List MapEntry} {c c2:Nat} {L:Loc} (hg:H.get b= .map es c) (hL:ρ[b]? =some L) {es':Array MapEntry} (hm:MR P ρ es2 es'.toList):
  ∃w',(setObj L.block (.map es' c2)).run P w= .ok () w'∧HRel P B w0 ρ (H.put b (.map es2 c2)) w':=by
 obtain ⟨es1,h1,_⟩:=map_inv h hg hL
 have hlt:L.block< w.heap.size:=(Array.getElem?_eq_some_iff.1 h1).1
 refine ⟨{w with heap:=w.heap.setIfInBounds L.block (.map es' c2)},by simp [setObj,Sem.run,h1],?_⟩
 have hB:=h.own b L hL (by rw [hg];rfl)
 have hG:=h.ghost b L hL (by rw [hg];rfl)
 refine h.put (b:=b) (by rw [hg];rfl) hL ?_ ⟨rfl,rfl,rfl,by simp,fun k hk=>?_⟩ (fun i hi=>?_)
 ·exact ⟨es',by simp [hlt],by simpa using hm.1,fun i x y hx hy=>hm.2 i x y hx (by simpa using hy)⟩
 ·show (w.heap.setIfInBounds L.block _)[k]? =_
  rw [Array.getElem?_setIfInBounds_ne (fun e=>by subst e;exact hk.elim hB hG)]
 ·show (w.heap.setIfInBounds L.block _)[i]? =_
  rw [Array.getElem?_setIfInBounds_ne (fun e=>hi e.symm)]
theorem VRel.map_inv {x':Value} {r:Nat} (h:VRel P ρ (.map (some r)) x'):∃L,ρ[r]? =some L∧x'= .map (some L.block):=by
 cases h with|map hb=>exact ⟨_,hb,rfl⟩
theorem MR.set {es es':List MapEntry} (h:MR P ρ es es') {e e':MapEntry} (he:zbK P ρ e e') (i:Nat):MR P ρ (es.set i e) (es'.set i e'):=
 ⟨by simp [h.1],fun j x y hx hy=>by
  rw [List.getElem?_set] at hx hy
  split at hx
  ·rename_i hij
   rw [if_pos hij] at hy
   split at hx
   ·split at hy
    ·cases hx;cases hy;exact he
    ·cases hy
   ·cases hx
  ·rename_i hij
   rw [if_neg hij] at hy
   exact h.2 j x y hx hy⟩
theorem MR.push {es es':List MapEntry} (h:MR P ρ es es') {e e':MapEntry} (he:zbK P ρ e e'):MR P ρ (es++ [e]) (es'++ [e']):=
 ⟨by simp [h.1],fun j x y hx hy=>by
  rcases Nat.lt_or_ge j es.length with hlt|hge
  ·rw [List.getElem?_append_left hlt] at hx
   rw [List.getElem?_append_left (by rw [h.1];exact hlt)] at hy
   exact h.2 j x y hx hy
  ·rw [List.getElem?_append_right hge] at hx
   rw [List.getElem?_append_right (by rw [h.1];exact hge),h.1] at hy
   cases hj:j - es.length with
   |zero=>rw [hj] at hx hy;simp at hx hy;subst hx;subst hy;exact he
   |succ n=>rw [hj] at hx;simp at hx⟩
theorem zca (es:Array MapEntry) (i:Nat) (e:MapEntry) (f:MapEntry→MapEntry) (h:es[i]? =some e):(es.modify i f).toList=es.toList.set i (f e):=by
 rw [Array.toList_modify]
 apply List.ext_getElem?
 intro j
 have h':es.toList[i]? =some e:=by simpa using h
 have hlt:i< es.toList.length:=(List.getElem?_eq_some_iff.1 h').1
 rw [List.getElem?_modify,List.getElem?_set]
 by_cases hij:i=j
 ·subst hij;rw [h',if_pos rfl,if_pos hlt];simp
 ·rw [if_neg hij];simp [hij]
theorem found {kk:EqK} {k:Value} {es:List MapEntry} {es':Array MapEntry} (hm:MR P ρ es es'.toList) (hkey:zbd kk k=true) {i:Nat} {e:MapEntry} (hf:zaC kk k es 0=some (some (i,e))):
  ∃e',es'[i]? =some e'∧zbK P ρ e e'∧e.key=k∧e'.key=k∧zbC (some (i,e)) es'.toList=some (i,e'.val)∧es[i]? =some e:=by
 obtain ⟨j,hj,he,hq⟩:=zb1 hf (i,e) rfl
 simp at hj
 subst hj
 simp only at he hq
 have hlt:i< es'.toList.length:=by rw [hm.1];exact (List.getElem?_eq_some_iff.1 he).1
 have hlt':i< es'.size:=by simpa using hlt
 have hkk:=zgh hkey hq
 have hrel:=hm.2 i e es'[i] he (by simp [hlt'])
 refine ⟨es'[i],by simp [hlt'],hrel,hkk.symm,?_,by simp [zbC,hlt'],he⟩
 exact zb0 hkey (by have:=hrel.1;rw [←hkk] at this;exact this)
theorem ziV {t kt et:TypeId} {kk:EqK} {i:TypeInfo} {z:Value} (ht:P.underlying t=some (.map kt et)) (hkt:EqT P kt kk) (hi:P.info? et=some i) (hz:i.zero=some z) (hzg:VRel P [] z z)
  {m m' k k' v:Value} {ok:Bool} (h:HRel P B w0 ρ H w) (hm:VRel P ρ m m') (hk:VRel P ρ k k')
  (hr:((zdr H m).bind fun p=>if zbd kk k then (zaC kk k p.1 0).map fun
   |some (_,en)=>(if ok then Value.tuple #[en.val,.bool true] else en.val,H)
   |none=>(if ok then .tuple #[z,.bool false] else z,H) else none)=some (v,H)):Gives P B w0 ρ (Instr.lookup t m' k' ok) w v H:=by
 cases hkm:zdr H m with
 |none=>simp [hkm] at hr
 |some p=>
  obtain ⟨es,c⟩:=p
  simp only [hkm,Option.bind_some] at hr
  split at hr
  ·rename_i hkey
   have hke:=zb0 hkey hk
   subst hke
   cases hf:zaC kk k' es 0 with
   |none=>simp [hf] at hr
   |some r=>
    have hesr:∃es':Array MapEntry,MR P ρ es es'.toList∧((m'= .map none∧es'=#[])∨∃r c,m'= .map (some r)∧w.heap[r]? =some (.map es' c)):=by
     unfold zdr at hkm
     split at hkm
     ·rename_i r
      obtain ⟨L,hL,rfl⟩:=hm.map_inv
      split at hkm
      ·rename_i es0 c0 hg
       cases hkm
       obtain ⟨es',h1,h2⟩:=map_inv h hg hL
       exact ⟨es',h2,.inr ⟨_,_,rfl,h1⟩⟩
      ·cases hkm
     ·cases hkm
      cases hm
      exact ⟨#[],⟨rfl,fun i x y hx=>by simp at hx⟩,.inl ⟨rfl,rfl⟩⟩
     ·cases hkm
    obtain ⟨es',hmr,hK⟩:=hesr
    have hck:=zda hkt hkey es'.isEmpty 9998
    have hfk:=zbD hkt hkey hmr hf
    simp only [hf,Option.map_some] at hr
    have hrun:(Instr.lookup t m' k' ok).run P w=(do
      Instr.checkKey es'.isEmpty 10000 kt k'
      let (v,b) ←match ←Instr.findKey kt k' es'.toList with
       |some (_,v)=>pure (v,true)
       |none=>pure (←zeroValue et,false)
      pure (if ok then .tuple #[v,.bool b] else v):Sem Value).run P w:=by
     rcases hK with ⟨rfl,rfl⟩|⟨r,c,rfl,h1⟩
     ·unfold Instr.lookup
      simp only [Sem.run_bind,run_underlying ht,Result.andThen_ok,Sem.run_pure]
      rfl
     ·unfold Instr.lookup
      simp only [Sem.run_bind,run_underlying ht,Result.andThen_ok,Sem.run_pure,zaK h1]
      rfl
    cases r with
    |none=>
     simp only [Option.some.injEq,Prod.mk.injEq] at hr
     obtain ⟨rfl,_⟩:=hr
     refine Gives.same h (v':=if ok then .tuple #[z,.bool false] else z) ?_ ?_
     ·rw [hrun]
      simp [hck,hfk,zbC,zeroValue,typeInfo,hi,hz]
     ·cases ok
      ·exact hzg.mono List.nil_prefix
      ·exact .tuple rfl (fun j x y hx hy=>by
       rcases j with _|_|j
       ·simp at hx hy;subst hx;subst hy;exact hzg.mono List.nil_prefix
       ·simp at hx hy;subst hx;subst hy;exact .bool _
       ·simp at hx)
    |some p=>
     obtain ⟨j,e⟩:=p
     obtain ⟨e',he',hrel,_,_,hfv,_⟩:=found hmr hkey hf
     simp only [Option.some.injEq,Prod.mk.injEq] at hr
     obtain ⟨rfl,_⟩:=hr
     refine Gives.same h (v':=if ok then .tuple #[e'.val,.bool true] else e'.val) ?_ ?_
     ·rw [hrun]
      simp [hck,hfk,hfv]
     ·cases ok
      ·exact hrel.2.1
      ·exact .tuple rfl (fun j x y hx hy=>by
       rcases j with _|_|j
       ·simp at hx hy;subst hx;subst hy;exact hrel.2.1
       ·simp at hx hy;subst hx;subst hy;exact .bool _
       ·simp at hx)
  ·cases hr
theorem stays {kk:EqK} {k:Value} (hkey:zbd kk k=true) (w:World):(Instr.keyThatStays k k).run P w= .ok k w:=by
 simp [Instr.keyThatStays,bits hkey 9999]
theorem zgj {t kt et:TypeId} {kk:EqK} (ht:P.underlying t=some (.map kt et)) (hkt:EqT P kt kk) {m m' k k' v v':Value} {H':Heap} (h:HRel P B w0 ρ H w) (hm:VRel P ρ m m') (hk:VRel P ρ k k') (hv:VRel P ρ v v')
  (hr:zf7 H kk m k v=some H'):zcD P B w0 ρ (Instr.mapUpdate t m' k' v') w H':=by
 unfold zf7 at hr
 split at hr
 ·rename_i r
  obtain ⟨L,hL,rfl⟩:=hm.map_inv
  split at hr
  ·rename_i es c hg
   split at hr
   ·rename_i hkey
    have hke:=zb0 hkey hk
    subst hke
    obtain ⟨es',h1,hmr⟩:=map_inv h hg hL
    cases hf:zaC kk k' es 0 with
    |none=>simp [hf] at hr
    |some q=>
     have hfk:=zbD hkt hkey hmr hf
     have hck:=zda hkt hkey false 9998
     simp only [hf,Option.map_some,Option.some.injEq] at hr
     cases q with
     |none=>
      simp only at hr
      subst hr
      have he:zbK P ρ {key:=k',val:=v,born:=c} {key:=k',val:=v',born:=c}:=⟨hk,hv,rfl⟩
      obtain ⟨w',hw,hH⟩:=zbE h hg hL (c2:=c+1) (es':=es'.push {key:=k',val:=v',born:=c}) (by simpa using hmr.push he)
      exact ⟨ρ,w',by simp [Instr.mapUpdate,run_underlying ht,zaK h1,hck,hfk,zbC,hw],List.prefix_refl _,hH⟩
     |some p=>
      obtain ⟨j,e⟩:=p
      obtain ⟨e',he',hrel,hek,hek',hfv,hej⟩:=found hmr hkey hf
      simp only at hr
      subst hr
      have he:zbK P ρ {e with key:=k',val:=v} {e' with key:=k',val:=v'}:=⟨hk,hv,hrel.2.2⟩
      obtain ⟨w',hw,hH⟩:=zbE h hg hL (c2:=c) (es':=es'.modify j fun e=>{e with key:=k',val:=v'}) (by
       rw [zca es' j e' _ he'];exact hmr.set he j)
      exact ⟨ρ,w',by simp [Instr.mapUpdate,run_underlying ht,zaK h1,hck,hfk,hfv,he',hek',stays hkey,hw],List.prefix_refl _,hH⟩
   ·cases hr
  ·cases hr
 ·cases hr
theorem tup2 {a a' b b':Value} (ha:VRel P ρ a a') (hb:VRel P ρ b b'):VRel P ρ (.tuple #[a,b]) (.tuple #[a',b']):=
 .tuple rfl (fun j x y hx hy=>by
  rcases j with _|_|j
  ·simp at hx hy;subst hx;subst hy;exact ha
  ·simp at hx hy;subst hx;subst hy;exact hb
  ·simp at hx)
theorem ziW {t kt et:TypeId} {kk:EqK} {i:TypeInfo} {z:Value} (ht:P.underlying t=some (.map kt et)) (hkt:EqT P kt kk) (hi:P.info? et=some i) (hz:i.zero=some z) (hzg:VRel P [] z z)
  {m m' k k' v:Value} {H':Heap} (h:HRel P B w0 ρ H w) (hm:VRel P ρ m m') (hk:VRel P ρ k k') (hr:ziA H kk z m k=some (v,H')):Gives P B w0 ρ (Instr.mapEntry t m' k') w v H':=by
 unfold ziA at hr
 split at hr
 ·rename_i r
  obtain ⟨L,hL,rfl⟩:=hm.map_inv
  split at hr
  ·rename_i es c hg
   split at hr
   ·rename_i hkey
    have hke:=zb0 hkey hk
    subst hke
    obtain ⟨es',h1,hmr⟩:=map_inv h hg hL
    cases hf:zaC kk k' es 0 with
    |none=>simp [hf] at hr
    |some q=>
     have hfk:=zbD hkt hkey hmr hf
     have hck:=zda hkt hkey false 9998
     simp only [hf,Option.map_some,Option.some.injEq] at hr
     have hzz:VRel P ρ z z:=hzg.mono List.nil_prefix
     cases q with
     |none=>
      simp only [Prod.mk.injEq] at hr
      obtain ⟨rfl,rfl⟩:=hr
      have he:zbK P ρ {key:=k',val:=z,born:=c} {key:=k',val:=z,born:=c}:=⟨hk,hzz,rfl⟩
      obtain ⟨w',hw,hH⟩:=zbE h hg hL (c2:=c+1) (es':=es'.push {key:=k',val:=z,born:=c}) (by simpa using hmr.push he)
      exact ⟨ρ,_,w',by simp [Instr.mapEntry,run_underlying ht,zaK h1,hck,hfk,zbC,zeroValue,typeInfo,hi,hz,hw,goInt],List.prefix_refl _,tup2 hzz (.int _ _),hH⟩
     |some p=>
      obtain ⟨j,e⟩:=p
      obtain ⟨e',he',hrel,hek,hek',hfv,hej⟩:=found hmr hkey hf
      simp only [Prod.mk.injEq] at hr
      obtain ⟨rfl,rfl⟩:=hr
      have he:zbK P ρ {e with key:=k'} {e' with key:=k'}:=⟨hk,hrel.2.1,hrel.2.2⟩
      obtain ⟨w',hw,hH⟩:=zbE h hg hL (c2:=c) (es':=es'.modify j fun e=>{e with key:=k'}) (by
       rw [zca es' j e' _ he'];exact hmr.set he j)
      refine ⟨ρ,.tuple #[e'.val,.int .i64 e'.born],w',by simp [Instr.mapEntry,run_underlying ht,zaK h1,hck,hfk,hfv,he',hek',stays hkey,hw,goInt],List.prefix_refl _,?_,hH⟩
      rw [hrel.2.2]
      exact tup2 hrel.2.1 (.int _ _)
   ·cases hr
  ·cases hr
 ·cases hr
theorem zhy {es:List MapEntry} {es':Array MapEntry} (hm:MR P ρ es es'.toList) (b:Int):es'.findIdx? (fun e=>(e.born:Int)==b)=zed es b:=by
 have h:∀(l l':List MapEntry),MR P ρ l l'→l'.findIdx? (fun e=>(e.born:Int)==b)=l.findIdx? fun e=>(e.born:Int)==b:=by
  intro l
  induction l with
  |nil=>intro l' h;have:l'= []:=List.eq_nil_of_length_eq_zero (by have:=h.1;simpa using this);subst this;rfl
  |cons e l ih=>
   intro l' h
   cases l' with
   |nil=>have:=h.1;simp at this
   |cons e' l'=>
    obtain ⟨he,ht⟩:=h.tail
    simp only [List.findIdx?_cons,he.2.2,ih l' ht]
 have e1:es'.findIdx? (fun e=>(e.born:Int)==b)=es'.toList.findIdx? (fun e=>(e.born:Int)==b):=by
  obtain ⟨l⟩:=es'
  exact List.findIdx?_toArray _ _
 rw [e1,h es es'.toList hm];rfl
theorem ziX {t:TypeId} {m m' s s' v v':Value} {H':Heap} (h:HRel P B w0 ρ H w) (hm:VRel P ρ m m') (hs:VRel P ρ s s') (hv:VRel P ρ v v') (hr:ziB H m s v=some H'):
  zcD P B w0 ρ (Instr.entryStore t m' s' v') w H':=by
 unfold ziB at hr
 split at hr
 ·rename_i r k b
  obtain ⟨L,hL,rfl⟩:=hm.map_inv
  cases hs
  split at hr
  ·rename_i es c hg
   obtain ⟨es',h1,hmr⟩:=map_inv h hg hL
   have hb:=zhy hmr b
   split at hr
   ·rename_i i hfi
    rw [hfi] at hb
    split at hr
    ·rename_i e he
     cases hr
     have hlt:i< es'.size:=by have:=(List.getElem?_eq_some_iff.1 he).1;have:=hmr.1;simp at this;omega
     have hrel:=hmr.2 i e es'[i] he (by simp [hlt])
     have he2:zbK P ρ {e with val:=v} {es'[i] with val:=v'}:=⟨hrel.1,hv,hrel.2.2⟩
     obtain ⟨w',hw,hH⟩:=zbE h hg hL (c2:=c) (es':=es'.modify i fun e=>{e with val:=v'}) (by
      rw [zca es' i es'[i] _ (by simp [hlt])];exact hmr.set he2 i)
     exact ⟨ρ,w',by simp [Instr.entryStore,zaK h1,asInt,asIntOf,hb,hw],List.prefix_refl _,hH⟩
    ·cases hr
   ·cases hr
  ·cases hr
 ·cases hr
theorem ziY (t:TypeId) (h:HRel P B w0 ρ H w):Gives P B w0 ρ (Instr.makeMap t none) w (.map (some H.next)) (H.push (.map [] 0)):=by
 have hH:HRel P B w0 (ρ++ [⟨w.heap.size,0,0,0⟩]) (H.push (.map [] 0)) (w.alloc (.map #[] 0)):=
  h.push rfl ⟨#[],heap_alloc_new w _,rfl,fun i x y hx=>by simp at hx⟩
 exact ⟨_,.map (some w.heap.size),_,by simp [Instr.makeMap,newObj,Sem.run],List.prefix_append _ _,.map (zbj h _),hH⟩
theorem ziZ {t kt et ty:TypeId} {kk:EqK} (ht:P.underlying t=some (.map kt et)) (hkt:EqT P kt kk) {ats:Array TypeId} (hm0:ats[0]? =some t) {m m' k k':Value} {H':Heap} (h:HRel P B w0 ρ H w) (hm:VRel P ρ m m') (hk:VRel P ρ k k')
  (hr:ziC H kk m k=some H'):Gives P B w0 ρ (Builtin.delete_ ats ty #[m',k']) w (.tuple #[]) H':=by
 have htup:∀ρ:Rho,VRel P ρ (.tuple #[]) (.tuple #[]):=fun ρ=> .tuple rfl (fun j x y hx=>by simp at hx)
 unfold ziC at hr
 split at hr
 ·cases hm
  split at hr
  ·rename_i hkey
   cases hr
   have hke:=zb0 hkey hk
   subst hke
   exact Gives.same h (by simp [Builtin.delete_,hm0,run_underlying ht,zda hkt hkey true 9998]) (htup ρ)
  ·cases hr
 ·rename_i r
  obtain ⟨L,hL,rfl⟩:=hm.map_inv
  split at hr
  ·rename_i es c hg
   split at hr
   ·rename_i hkey
    have hke:=zb0 hkey hk
    subst hke
    obtain ⟨es',h1,hmr⟩:=map_inv h hg hL
    cases hf:zaC kk k' es 0 with
    |none=>simp [hf] at hr
    |some q=>
     have hfk:=zbD hkt hkey hmr hf
     have hck:=zda hkt hkey es'.isEmpty 9998
     simp only [hf,Option.map_some,Option.some.injEq] at hr
     cases q with
     |none=>
      simp only at hr
      subst hr
      obtain ⟨w',hw,hH⟩:=zbE h hg hL (c2:=c) (es':=es') hmr
      rw [←hg,Heap.put_self] at hH
      exact ⟨ρ,_,w',by simp [Builtin.delete_,hm0,run_underlying ht,zaK h1,hck,hfk,zbC,hw],List.prefix_refl _,htup ρ,hH⟩
     |some p=>
      obtain ⟨j,e⟩:=p
      obtain ⟨e',he',hrel,hek,hek',hfv,hej⟩:=found hmr hkey hf
      simp only at hr
      subst hr
      have hmr2:MR P ρ (es.eraseIdx j) (es'.eraseIdxIfInBounds j).toList:=by
       have e1:(es'.eraseIdxIfInBounds j).toList=es'.toList.eraseIdx j:=by simp
       rw [e1]
       refine ⟨by simp [List.length_eraseIdx,hmr.1],fun i x y hx hy=>?_⟩
       rw [List.getElem?_eraseIdx] at hx hy
       split at hx
       ·rename_i hlt;rw [if_pos hlt] at hy;exact hmr.2 i x y hx hy
       ·rename_i hlt;rw [if_neg hlt] at hy;exact hmr.2 _ x y hx hy
      obtain ⟨w',hw,hH⟩:=zbE h hg hL (c2:=c) hmr2
      exact ⟨ρ,_,w',by simp [Builtin.delete_,hm0,run_underlying ht,zaK h1,hck,hfk,hfv,hw],List.prefix_refl _,htup ρ,hH⟩
   ·cases hr
  ·cases hr
 ·cases hr
def zbu:TypeDesc→Bool
 | .interface _=>true
 |_=>false
theorem zi0 {xt t:TypeId} {d:TypeDesc} {i:TypeInfo} {z:Value} (hd:P.underlying t=some d) (hni:zbu d=false) (hi:P.info? t=some i) (hz:i.zero=some z) (hzg:VRel P [] z z)
  {x x' v:Value} {ok:Bool} (h:HRel P B w0 ρ H w) (hx:VRel P ρ x x')
  (hr:zfN H t z ok x=some (v,H)):Gives P B w0 ρ (Instr.typeAssert x' xt t ok) w v H:=by
 have hzz:VRel P ρ z z:=hzg.mono List.nil_prefix
 have hone:∀(t':TypeId) (u:Value),(Instr.typeAssert (.iface t' u) xt t ok).run P w=if t'=t then .ok (if ok then .tuple #[u,.bool true] else u) w else (if ok then Result.ok (.tuple #[z,.bool false]) w else (runtimePanic (.typeAssertion (some xt) (some t') t "")).run P w):=by
  intro t' u
  cases d<;>first
   |(simp [zbu] at hni;done)
   |(simp only [Instr.typeAssert,Sem.run_bind,run_underlying hd,Result.andThen_ok,Sem.run_ite,Sem.run_pure,zeroValue,typeInfo,run_program,hi,hz])
 have hnil:(Instr.typeAssert .nilIface xt t ok).run P w=(if ok then Result.ok (.tuple #[z,.bool false]) w else (runtimePanic (.typeAssertion (some xt) none t "")).run P w):=by
  cases d<;>first
   |(simp [zbu] at hni;done)
   |(simp only [Instr.typeAssert,Sem.run_bind,run_underlying hd,Result.andThen_ok,Sem.run_ite,Sem.run_pure,zeroValue,typeInfo,run_program,hi,hz])
 unfold zfN at hr
 cases hx<;>simp only at hr<;>try (cases hr;done)
 ·split at hr
  ·rename_i hok
   subst hok
   simp only [Option.some.injEq,Prod.mk.injEq] at hr
   obtain ⟨rfl,_⟩:=hr
   exact Gives.same h (v':= .tuple #[z,.bool false]) (by rw [hnil];simp) (tup2 hzz (.bool _))
  ·cases hr
 ·rename_i t' u u' hu
  split at hr
  ·rename_i htt
   simp only [Option.some.injEq,Prod.mk.injEq] at hr
   obtain ⟨rfl,_⟩:=hr
   refine Gives.same h (v':=if ok then .tuple #[u',.bool true] else u') (by rw [hone,if_pos htt]) ?_
   cases ok
   ·exact hu
   ·exact tup2 hu (.bool _)
  ·rename_i htt
   split at hr
   ·rename_i hok
    subst hok
    simp only [Option.some.injEq,Prod.mk.injEq] at hr
    obtain ⟨rfl,_⟩:=hr
    exact Gives.same h (v':= .tuple #[z,.bool false]) (by rw [hone,if_neg htt];simp) (tup2 hzz (.bool _))
   ·cases hr
end
def ground1:Value→Bool
 | .bool _| .int _ _| .string _| .pointer none| .slice none 0 0| .map none| .nilFunc| .nilIface=>true
 |_=>false
def zcs:Value→Bool
 | .agg xs=>xs.toList.all ground1
 |v=>ground1 v
def zau (nt:Nat):Operand→Option Opd
 | .tmp t=>if t< nt then some (.t t) else none
 | .const v=>if zcs v then some (.c v) else none
 | .func f=>some (.c (.func (.func f) #[] #[]))
 | .global _=>none
def zbM (nt:Nat):List Operand→Option (List Opd)
 | []=>some []
 |x::xs=>(zau nt x).bind fun y=>(zbM nt xs).map (y::·)
def zc (P:Program) (t:TypeId):Option (List Value):=(P.info? t).bind fun i=>i.zero.bind fun z=>if z.cells.toList.all ground1 && decide (z.cells.size=i.size) then some z.cells.toList else none
def zv (P:Program) (t:TypeId):Option Value:=(P.info? t).bind fun i=>i.zero.bind fun z=>if zcs z then some z else none
def zfn (P:Program) (t:TypeId):TypeId:=match P.underlying t with
 |some (.array _ e)=>e
 |_=>t
def zcb (nt:Nat) (place:Nat→Option (Nat×Nat)):List (Nat×Operand)→Option (List (Nat×Nat×Opd))
 | []=>some []
 |(i,x)::ps=>(place i).bind fun p=>(zau nt x).bind fun y=>(zcb nt place ps).map ((p.1,p.2,y)::·)
def places (P:Program) (fs:List Field):Option (List (Nat×Nat)):=fs.mapM fun f=>(P.info? f.type).map fun i=>(f.offset,i.size)
def zgk (P:Program) (nt:Nat) (t:TypeId) (ps:Array (Nat×Operand)):Option KOp:=
 (zc P t).bind fun z=>(P.underlying t).bind fun
  | .struct fs=>(places P fs.toList).bind fun pl=>(zcb nt (pl.toArray[·]?) ps.toList).map (KOp.build z)
  | .array _ e=>(P.info? e).bind fun ie=>(zcb nt (fun i=>some (i*ie.size,ie.size)) ps.toList).map (KOp.build z)
  |_=>none
def zjV (P:Program) (nt:Nat) (t:TypeId) (len:Nat) (ps:Array (Nat×Operand)):Option KOp:=
 (P.underlying t).bind fun
  | .slice e=>(P.info? e).bind fun i=>if len*i.size≤16777216 then
    (if len*i.size=0 then some #[] else i.zero.map Value.cells).bind fun zv=>
     let z:=((Array.range (len*i.size)).map (zv[· % zv.size]!)).toList
     if z.all ground1 then (zcb nt (fun j=>some (j*i.size,i.size)) ps.toList).map (KOp.bsl e len z) else none
    else none
  |_=>none
def zin (P:Program) (nt:Nat) (t:TypeId) (x:Operand):Option KOp:=
 (P.underlying t).bind fun d=>(P.info? t).bind fun i=>(zau nt x).map fun x=>if zav d then .ldn i.size x else .ld x
def zgl (P:Program) (nt:Nat) (t:TypeId) (x y:Operand):Option KOp:=
 (P.underlying t).bind fun d=>(P.info? t).bind fun i=>(zau nt x).bind fun x=>(zau nt y).bind fun y=>if zav d then some (.stn i.size x y) else if i.size=1 then some (.st x y) else none
def eqS (P:Program) (t:TypeId):Option EqS:=
 (P.underlying t).bind fun
  | .int _=>some .int
  | .string=>some .str
  | .bool=>some .bool
  |_=>none
def flatK (P:Program):List Field→Nat→Option (List EqS)
 | [],_=>some []
 |f::fs,j=>if f.name≠ "_"∧f.offset=j then (eqS P f.type).bind fun k=>(flatK P fs (j+1)).map (k::·) else none
def eqK (P:Program) (t:TypeId):Option EqK:=
 (P.underlying t).bind fun
  | .int _=>some (.s .int)
  | .string=>some (.s .str)
  | .bool=>some (.s .bool)
  | .pointer _=>some .ptr
  | .slice _=>some .slice
  | .map _ _=>some .map
  | .func _ _ _=>some .func
  | .interface _=>some .ifc
  | .struct fs=>if P.eqGuardType P.depth t=false∧P.stoodInHeld t=false then (flatK P fs.toList 0).map .agg else none
  | .array n e=>if P.eqGuardType P.depth t=false then (P.info? e).bind fun i=>if i.size=1 then (eqS P e).map fun k=> .agg (List.replicate n k) else none else none
  |_=>none
def isC:Operand→Bool
 | .const _=>true
 |_=>false
def zhz (P:Program) (nt:Nat) (neg:Bool) (t:TypeId) (x y:Operand):Option KOp:=
 (eqK P t).bind fun k=>(zau nt x).bind fun x'=>(zau nt y).bind fun y'=>
  if k= .s .int∨k= .s .str then some (.bin (if neg then .neq else .eql) x' y') else if k= .ifc∧isC y=false then none else some (.eqv k neg x' y')
def zjW (P:Program) (nt:Nat) (o:BinOp) (t:TypeId) (x y:Operand):Option KOp:=
 match o with
 | .eql=>zhz P nt false t x y
 | .neq=>zhz P nt true t x y
 |o=>(zau nt x).bind fun x=>(zau nt y).map fun y=> .bin o x y
def zhA (P:Program) (t:TypeId):Bool:=
 match P.underlying t with
 |some (.int .u8)=>true
 |_=>false
theorem zfo {P:Program} {t:TypeId} (h:zhA P t=true):P.underlying t=some (.int .u8):=by
 unfold zhA at h;split at h
 ·assumption
 ·cases h
def zio (P:Program) (nt:Nat) (src dst:TypeId) (x:Operand):Option KOp:=
 (P.underlying src).bind fun s=>(P.underlying dst).bind fun d=>(zau nt x).bind fun x=>
  match d with
  | .int k=>some (.cvt k x)
  | .string=>match s with
    | .slice e=>if zhA P e then some (.b2s e x) else none
    |_=>none
  | .slice e=>if zhA P e && decide ((P.info? e).map (·.size)=some 1) then some (.s2b e x) else none
  |_=>none
def zi1 (P:Program) (nt:Nat) (t:TypeId) (l c:Operand):Option KOp:=
 (P.underlying t).bind fun
  | .slice e=>(P.info? e).bind fun i=>(zc P e).bind fun z=>(zau nt l).bind fun l=>(zau nt c).map fun c=> .mks e z i.bytes l c
  |_=>none
def ze0 (nt:Nat):Option Operand→Option (Option Opd)
 |none=>some none
 |some x=>(zau nt x).map some
def zgm (P:Program) (nt:Nat) (t:TypeId) (x:Operand) (lo hi mx:Option Operand):Option KOp:=
 if mx.isSome then none else
 (P.underlying t).bind fun d=>(zau nt x).bind fun x=>(ze0 nt lo).bind fun lo=>(ze0 nt hi).bind fun hi=>
  match d with
  | .string=>some (.slS x lo hi)
  | .slice e=>(P.info? e).map fun i=> .slc e i.size x lo hi
  | .array len e=>(P.info? e).map fun i=> .sla e len i.size x lo hi
  |_=>none
def zjX (P:Program) (nt:Nat) (t:TypeId) (x:Operand) (n:Nat):Option KOp:=
 (P.underlying t).bind fun
  | .struct fs=>(fs[n]?).bind fun f=>(P.info? f.type).bind fun i=>if i.size=0 then none else (zau nt x).map (.fad f.offset)
  |_=>none
def zjY (P:Program) (nt:Nat) (t:TypeId) (x:Operand) (n:Nat):Option KOp:=
 (P.underlying t).bind fun
  | .struct fs=>(fs[n]?).bind fun f=>(P.underlying f.type).bind fun d=>(P.info? f.type).bind fun i=>(zau nt x).map fun x=>if zav d then .fldn f.offset i.size x else .fld f.offset x
  |_=>none
def zjZ (P:Program) (nt:Nat) (t:TypeId) (x j:Operand):Option KOp:=
 (P.underlying t).bind fun d=>(zau nt x).bind fun x=>(zau nt j).bind fun j=>
  match d with
  | .slice e=>(P.info? e).map fun i=> .iad i.size x j
  | .array len e=>(P.info? e).map fun i=> .iada len i.size x j
  |_=>none
def zj0 (P:Program) (nt:Nat) (t:TypeId) (x j:Operand):Option KOp:=
 (P.underlying t).bind fun d=>(zau nt x).bind fun x=>(zau nt j).bind fun j=>
  match d with
  | .string=>some (.idS x j)
  | .array len e=>(P.underlying e).bind fun d=>(P.info? e).bind fun i=>if zav d then some (.idan len i.size x j) else if i.size=1 then some (.ida len x j) else none
  |_=>none
def zdN (P:Program) (t:TypeId):Option (EqK×TypeId):=
 (P.underlying t).bind fun
  | .map k e=>(eqK P k).map (·,e)
  |_=>none
def zj1 (P:Program) (nt:Nat) (x:Operand) (t:TypeId) (ok:Bool):Option KOp:=
 (P.underlying t).bind fun d=>if zbu d then none else (zv P t).bind fun z=>(zau nt x).map (.tas t z ok)
def zbQ (P:Program) (nt:Nat) (b:Builtin) (args:List Operand) (ats:List TypeId):Option KOp:=
 match b,args,ats with
 | .len,[x],[t]=>(P.underlying t).bind fun d=>(zau nt x).bind fun x=>
  match d with
  | .string=>some (.lenS x)
  | .slice _=>some (.lenL x)
  | .map _ _=>some (.lenM x)
  | .array n _=>some (.mv (.c (.int .i64 n)))
  |_=>none
 | .append,[x,y],[t,u]=>(P.underlying t).bind fun
  | .slice e=>(P.info? e).bind fun i=>(zc P e).bind fun _=>(zau nt x).bind fun x=>(zau nt y).bind fun y=>(P.underlying u).bind fun
    | .slice e2=>some (.app e i.size i.bytes x y)
    | .string=>if i.size=1∧i.bytes=1 then some (.appS e x y) else none
    |_=>none
  |_=>none
 | .max,x::xs,_=>(zau nt x).bind fun x=>(zbM nt xs).map (.mx x)
 | .min,x::xs,_=>(zau nt x).bind fun x=>(zbM nt xs).map (.mn x)
 | .copy,[x,y],[t,u]=>(P.underlying t).bind fun
  | .slice e=>(P.info? e).bind fun i=>(zau nt x).bind fun x=>(zau nt y).map fun y=> .cpy e i.size x y
  |_=>none
 | .delete,[m,k],t::_=>(zdN P t).bind fun p=>(zau nt m).bind fun m=>(zau nt k).map fun k=> .del p.1 m k
 |_,_,_=>none
def zbk (P:Program) (f:FuncId):Bool:=
 match P.funcs[f]? with
 |some fn=>fn.body.isSome && fn.name != "runtime.NumGoroutine"
 |none=>false
def zfp (P:Program) (nt:Nat) (c:Call):Option KOp:=
 match c.callee with
 | .builtin b=>zbQ P nt b c.args.toList c.argTypes.toList
 | .value (.func f)=>if zbk P f then (zbM nt c.args.toList).map (.call f) else none
 | .value f=>(zau nt f).bind fun f=>(zbM nt c.args.toList).map (.callv f)
 | .invoke r name=>(zau nt r).bind fun r=>(zbM nt c.args.toList).map (.inv r name)
def zaF (P:Program) (nt:Nat):Op→Option KOp
 | .move x| .assign x=>(zau nt x).map .mv
 | .pick c a b=>(zau nt c).bind fun c=>(zau nt a).bind fun a=>(zau nt b).map fun b=> .pick c a b
 | .alloc t=>(zc P t).map (.alloc (zfn P t))
 | .box t x=>(zau nt x).map (.box (zfn P t))
 | .build t ps=>zgk P nt t ps
 | .buildSlice t len ps=>zjV P nt t len ps
 | .load t x=>zin P nt t x
 | .store t x y=>zgl P nt t x y
 | .nilCheck x=>(zau nt x).map .nck
 | .binOp o t x y _=>zjW P nt o t x y
 | .unOp o _ x=>(zau nt x).map (.un o)
 | .convert s d x=>zio P nt s d x
 | .makeInterface t x=>(P.underlying t).bind fun d=>if zbu d then none else (zau nt x).map (.mki t)
 | .makeFunc (.func f) a b=>(zbM nt a.toList).bind fun a=>(zbM nt b.toList).map fun b=> .mkf (.func f) a b
 | .makeMap _ none=>some .mkm
 | .makeSlice t l c=>zi1 P nt t l c
 | .slice t x lo hi mx=>zgm P nt t x lo hi mx
 | .fieldAddr t x n=>zjX P nt t x n
 | .field t x n=>zjY P nt t x n
 | .indexAddr t x j=>zjZ P nt t x j
 | .index t x j=>zj0 P nt t x j
 | .extract x j=>(zau nt x).map (.xt · j)
 | .lookup t m k ok=>(zdN P t).bind fun p=>(zv P p.2).bind fun z=>(zau nt m).bind fun m=>(zau nt k).map fun k=> .lkp p.1 z ok m k
 | .mapUpdate t m k v| .insert t m k v=>(zdN P t).bind fun p=>(zau nt m).bind fun m=>(zau nt k).bind fun k=>(zau nt v).map fun v=> .mup p.1 m k v
 | .mapEntry t m k=>(zdN P t).bind fun p=>(zv P p.2).bind fun z=>(zau nt m).bind fun m=>(zau nt k).map fun k=> .men p.1 z m k
 | .entryStore _ m s v=>(zau nt m).bind fun m=>(zau nt s).bind fun s=>(zau nt v).map fun v=> .mes m s v
 | .typeAssert x _ t ok=>zj1 P nt x t ok
 | .call c=>zfp P nt c
 |_=>none
def cOp (P:Program) (nt:Nat) (o:Op):Option KOp:=some ((zaF P nt o).getD .nev)
def zdb:KOp→Bool
 | .call _ _| .callp _ _| .callv _ _| .inv _ _ _=>true
 |_=>false
section
variable {P:Program} {B:Fz} {w0 w:World} {ρ:Rho} {H:Heap}
theorem ground1_rel {v:Value} (h:ground1 v=true):VRel P ρ v v∧zaq v=true:=by
 unfold ground1 at h
 split at h<;>first
  |(cases h;done)
  |exact ⟨.bool _,rfl⟩
  |exact ⟨.int _ _,rfl⟩
  |exact ⟨.string _,rfl⟩
  |exact ⟨.pnil,rfl⟩
  |exact ⟨.snil,rfl⟩
  |exact ⟨.mnil,rfl⟩
  |exact ⟨.nilFunc,rfl⟩
  |exact ⟨.nilIface,rfl⟩
theorem zaW {l:List Value} (h:l.all ground1=true):VL P ρ l l∧∀x∈l,zaq x=true:=by
 rw [List.all_eq_true] at h
 exact ⟨⟨rfl,fun i x y hx hy=>by rw [hx] at hy;cases hy;exact (ground1_rel (h x (List.mem_of_getElem? hx))).1⟩,fun x hx=>(ground1_rel (P:=P) (ρ:=ρ) (h x hx)).2⟩
theorem zbn {v:Value} (h:zcs v=true):VRel P ρ v v:=by
 unfold zcs at h
 split at h
 ·rename_i xs
  obtain ⟨h1,h2⟩:=zaW (P:=P) (ρ:=ρ) h
  exact .agg rfl (fun i x y hx hy=>h1.2 i x y (by simpa using hx) (by simpa using hy)) (fun i x hx=>h2 x (List.mem_of_getElem? (by simpa using hx)))
 ·exact (ground1_rel h).1
def zaG (P:Program) (ρ:Rho) (e:Env) (a:Act):Prop:=∀n,VRel P ρ (e.get n) (a.tmps.getD n undef)
theorem zaG.mono {ρ ρ':Rho} {e:Env} {a:Act} (h:zaG P ρ e a) (hp:ρ<+:ρ'):zaG P ρ' e a:=fun n=>(h n).mono hp
theorem zag {nt:Nat} {x:Operand} {k:Opd} {e:Env} {a:Act} (he:zaG P ρ e a) (hc:zau nt x=some k):VRel P ρ (e.ev k) (a.eval x):=by
 cases x with
 |tmp t=>simp only [zau] at hc;split at hc<;>cases hc;exact he t
 |const v=>simp only [zau] at hc;split at hc<;>cases hc;rename_i h;exact zbn h
 |func f=>simp only [zau] at hc;cases hc;exact .func _ rfl (fun i x y hx=>by simp at hx) rfl (fun i x y hx=>by simp at hx)
 |global g=>cases hc
theorem zbe {nt:Nat} {e:Env} {a:Act} (he:zaG P ρ e a):∀{xs:List Operand} {ks:List Opd},zbM nt xs=some ks→VL P ρ (ks.map e.ev) (xs.map a.eval)
 | [],ks,hc=>by simp [zbM] at hc;subst hc;exact VL.nil
 |x::xs,ks,hc=>by
  simp only [zbM,Option.bind_eq_some_iff,Option.map_eq_some_iff] at hc
  obtain ⟨k,hk,l,hl,rfl⟩:=hc
  exact VL.cons (zag he hk) (zbe he hl)
theorem zb2 {t:TypeId} {z:List Value} (h:zc P t=some z):∃i zz,P.info? t=some i∧i.zero=some zz∧z=zz.cells.toList∧zz.cells.size=i.size∧z.all ground1=true:=by
 simp only [zc,Option.bind_eq_some_iff] at h
 obtain ⟨i,hi,zz,hz,h⟩:=h
 split at h
 ·rename_i hc
  simp only [Bool.and_eq_true,decide_eq_true_eq] at hc
  cases h
  exact ⟨i,zz,hi,hz,rfl,hc.2,hc.1⟩
 ·cases h
theorem zdO {t:TypeId} {z:Value} (h:zv P t=some z):∃i,P.info? t=some i∧i.zero=some z∧zcs z=true:=by
 simp only [zv,Option.bind_eq_some_iff] at h
 obtain ⟨i,hi,zz,hz,h⟩:=h
 split at h
 ·cases h;exact ⟨i,hi,hz,by assumption⟩
 ·cases h
def zbo (P:Program) (B:Fz) (w0:World) (ρ:Rho) (s:Sem Next) (w:World) (v:Value) (H':Heap):Prop:=
 ∃ρ' r w',s.run P w= .ok r w'∧ρ<+:ρ'∧HRel P B w0 ρ' H' w'∧((∃v',r= .value v'∧VRel P ρ' v v')∨(r= .skip∧v=undef))
theorem Gives.op {s:Sem Value} {v:Value} {H':Heap} (h:Gives P B w0 ρ s w v H'):zbo P B w0 ρ (do pure (.value (←s))) w v H':=by
 obtain ⟨ρ',v',w',hr,hp,hv,hH⟩:=h
 exact ⟨ρ',.value v',w',by simp [hr],hp,hH,.inl ⟨v',rfl,hv⟩⟩
theorem zcD.op {s:Sem Unit} {H':Heap} (h:zcD P B w0 ρ s w H'):zbo P B w0 ρ (do s;pure .skip) w undef H':=by
 obtain ⟨ρ',w',hr,hp,hH⟩:=h
 exact ⟨ρ',.skip,w',by simp [hr],hp,hH,.inr ⟨rfl,rfl⟩⟩
theorem zct {nt:Nat} {e:Env} {a:Act} (he:zaG P ρ e a) {place:Nat→Option (Nat×Nat)}:∀{ps:List (Nat×Operand)} {ks:List (Nat×Nat×Opd)},zcb nt place ps=some ks→
  (zaR e ks).length=(ps.map fun p=>(p.1,a.eval p.2)).length∧∀(j:Nat) p q,(zaR e ks)[j]? =some p→(ps.map fun p=>(p.1,a.eval p.2))[j]? =some q→place q.1=some (p.1,p.2.1)∧VRel P ρ p.2.2 q.2
 | [],ks,hc=>by simp [zcb] at hc;subst hc;exact ⟨rfl,fun j p q hp=>by simp [zaR] at hp⟩
 |(i,x)::ps,ks,hc=>by
  simp only [zcb,Option.bind_eq_some_iff,Option.map_eq_some_iff] at hc
  obtain ⟨pl,hpl,y,hy,l,hl,rfl⟩:=hc
  obtain ⟨h1,h2⟩:=zct he hl
  refine ⟨by simpa [zaR] using h1,fun j p q hp hq=>?_⟩
  cases j with
  |zero=>
   simp [zaR] at hp hq
   subst hp;subst hq
   exact ⟨hpl,zag he hy⟩
  |succ j=>exact h2 j p q (by simpa [zaR] using hp) (by simpa using hq)
theorem zgn {t:TypeId} {k:EqS} (h:eqS P t=some k):zcU P t k:=by
 simp only [eqS,Option.bind_eq_some_iff] at h
 obtain ⟨d,hd,h⟩:=h
 cases d with
 |int k'=>simp at h;subst h;exact ⟨_,hd⟩
 |string=>simp at h;subst h;exact hd
 |bool=>simp at h;subst h;exact hd
 |_=>simp at h
theorem zem:∀{fs:List Field} {j:Nat} {ks:List EqS},flatK P fs j=some ks→zej P fs j ks
 | [],j,ks,h=>by simp [flatK] at h;subst h;trivial
 |f::fs,j,ks,h=>by
  simp only [flatK] at h
  split at h
  ·rename_i hc
   simp only [Option.bind_eq_some_iff,Option.map_eq_some_iff] at h
   obtain ⟨k,hk,l,hl,rfl⟩:=h
   exact ⟨hc.1,hc.2,zgn hk,zem hl⟩
  ·cases h
theorem zcF {t:TypeId} {k:EqK} (h:eqK P t=some k):EqT P t k:=by
 simp only [eqK,Option.bind_eq_some_iff] at h
 obtain ⟨d,hd,h⟩:=h
 cases d with
 |int k'=>simp at h;subst h;exact ⟨_,hd⟩
 |string=>simp at h;subst h;exact hd
 |bool=>simp at h;subst h;exact hd
 |pointer e=>simp at h;subst h;exact ⟨_,hd⟩
 |slice e=>simp at h;subst h;exact ⟨_,hd⟩
 |map a b=>simp at h;subst h;exact ⟨_,_,hd⟩
 |func a b c=>simp at h;subst h;exact ⟨_,_,_,hd⟩
 |interface a=>simp at h;subst h;exact ⟨_,hd⟩
 |struct fs=>
  simp only at h
  split at h
  ·rename_i hc
   simp only [Option.map_eq_some_iff] at h
   obtain ⟨l,hl,rfl⟩:=h
   exact ⟨hc.1,.inl ⟨fs,hd,hc.2,zem hl⟩⟩
  ·cases h
 |array n e=>
  simp only at h
  split at h
  ·rename_i hc
   simp only [Option.bind_eq_some_iff] at h
   obtain ⟨i,hi,h⟩:=h
   split at h
   ·rename_i h1
    simp only [Option.map_eq_some_iff] at h
    obtain ⟨q,hq,rfl⟩:=h
    exact ⟨hc,.inr ⟨n,e,q,i,hd,hi,h1,zgn hq,rfl⟩⟩
   ·cases h
  ·cases h
 |_=>simp at h
end
section
variable {P:Program} {B:Fz} {w0 w:World} {ρ:Rho} {H H':Heap} {nt:Nat} {e:Env} {a:Act} {k:KOp} {v:Value}
theorem VRel.int_inv {k:IntKind} {n:Int} {x':Value} (h:VRel P ρ (.int k n) x'):x'= .int k n:=by cases h;rfl
theorem VRel.str_inv {s:ByteArray} {x':Value} (h:VRel P ρ (.string s) x'):x'= .string s:=by cases h;rfl
theorem VRel.bool_inv {b:Bool} {x':Value} (h:VRel P ρ (.bool b) x'):x'= .bool b:=by cases h;rfl
theorem VRel.slice_inv {b:Option Addr} {n c:Nat} {x':Value} (h:VRel P ρ (.slice b n c) x'):∃b' c',x'= .slice b' n c':=by
 cases h
 ·exact ⟨_,_,rfl⟩
 ·exact ⟨_,_,rfl⟩
 ·exact ⟨_,_,rfl⟩
theorem VRel.mnil_inv {x':Value} (h:VRel P ρ (.map none) x'):x'= .map none:=by cases h;rfl
theorem zcc {o:Option Operand} {o':Option Opd} {d l:Int} (he:zaG P ρ e a) (hc:ze0 nt o=some o') (hl:evI e d o'=some l):IsI (o.map a.eval) d l:=by
 cases o with
 |none=>simp [ze0] at hc;subst hc;simp [evI] at hl;exact .inl ⟨rfl,hl.symm⟩
 |some x=>
  simp only [ze0,Option.map_eq_some_iff] at hc
  obtain ⟨y,hy,rfl⟩:=hc
  have:=zag he hy
  simp only [evI] at hl
  split at hl
  ·rename_i j n hev
   cases hl
   rw [hev] at this
   refine .inr ⟨j,?_⟩
   generalize hq:a.eval x=q at this
   cases this
   simp [hq]
  ·cases hl
theorem zaj {s:Sem Value} {v':Value} (h:HRel P B w0 ρ H w) (hr:s.run P w= .ok v' w) (hv:VRel P ρ v v'):zbo P B w0 ρ (do pure (.value (←s))) w v H:=(Gives.same h hr hv).op
theorem ze1 {b:Builtin} {args:List Operand} {ats:List TypeId} {ty:TypeId} {cs:Array Bool} (he:zaG P ρ e a) (h:HRel P B w0 ρ H w) (hc:zbQ P nt b args ats=some k) (hk:kop k e H=some (v,H')):
  zbo P B w0 ρ (builtin b ats.toArray ty cs (args.map a.eval).toArray) w v H':=by
 unfold zbQ at hc
 split at hc
 ·
  rename_i x t
  simp only [Option.bind_eq_some_iff] at hc
  obtain ⟨d,hd,y,hy,hc⟩:=hc
  have hx:=zag he hy
  cases d with
  |string=>
   cases hc
   simp only [kop] at hk
   split at hk
   ·rename_i s hev
    cases hk
    rw [hev] at hx
    have hq:=hx.str_inv
    exact zaj h (v':= .int .i64 s.size) (by simp [Builtin.len_,run_underlying hd,hq,goInt]) (.int _ _)
   ·cases hk
  |slice el=>
   cases hc
   simp only [kop] at hk
   split at hk
   ·rename_i b n c hev
    cases hk
    rw [hev] at hx
    obtain ⟨b',c',hq⟩:=hx.slice_inv
    exact zaj h (v':= .int .i64 n) (by simp [Builtin.len_,run_underlying hd,hq,goInt]) (.int _ _)
   ·cases hk
  |map kt et=>
   cases hc
   simp only [kop,Option.map_eq_some_iff] at hk
   obtain ⟨⟨es,c⟩,hm,hk⟩:=hk
   simp only [Prod.mk.injEq] at hk
   obtain ⟨rfl,rfl⟩:=hk
   unfold zdr at hm
   split at hm
   ·rename_i r hev
    rw [hev] at hx
    obtain ⟨L,hL,hq⟩:=hx.map_inv
    split at hm
    ·rename_i es0 c0 hg
     cases hm
     obtain ⟨es',h1,h2⟩:=map_inv h hg hL
     refine zaj h (v':= .int .i64 es'.size) (by simp [Builtin.len_,run_underlying hd,zaK h1,goInt,hq]) ?_
     have:es.length=es'.size:=by have:=h2.1;simp at this;omega
     rw [this]
     exact .int _ _
    ·cases hm
   ·rename_i hev
    cases hm
    rw [hev] at hx
    have hq:=hx.mnil_inv
    exact zaj h (v':= .int .i64 0) (by simp [Builtin.len_,run_underlying hd,goInt,hq]) (.int _ _)
   ·cases hm
  |array n el=>
   cases hc
   simp only [kop,Option.some.injEq,Prod.mk.injEq,Env.ev] at hk
   obtain ⟨rfl,rfl⟩:=hk
   exact zaj h (v':= .int .i64 n) (by simp [Builtin.len_,run_underlying hd,goInt]) (.int _ _)
  |_=>cases hc
 ·
  rename_i x y t u
  simp only [Option.bind_eq_some_iff] at hc
  obtain ⟨d,hd,hc⟩:=hc
  cases d with
  |slice el=>
   simp only [Option.bind_eq_some_iff] at hc
   obtain ⟨i,hi,z,hz,x',hx',y',hy',d2,hd2,hc⟩:=hc
   obtain ⟨i2,zz,hi2,hzz,_,hzs,_⟩:=zb2 hz
   rw [hi] at hi2;cases hi2
   have hx:=zag he hx'
   have hy:=zag he hy'
   cases d2 with
   |slice e2=>
    cases hc
    simp only [kop] at hk
    split at hk
    ·rename_i b m c hev
     simp only [Option.bind_eq_some_iff] at hk
     obtain ⟨news,hnews,hk⟩:=hk
     rw [hev] at hy
     obtain ⟨hnl,b',c',hq,news',hv,hnl',ho,hcell⟩:=zcp h hy hnews
     have hcell':∀w2:World,(∀ad,w2.cell? ad=w.cell? ad)→(Builtin.firstCells i.size m (.slice b' m c')).run P w2= .ok news'.toArray w2:=by
      intro w2 hw2
      rcases hcell with ⟨rfl,h0⟩|⟨b2,rfl,hc2⟩
      ·have:news'= []:=List.eq_nil_of_length_eq_zero (by rw [hnl',h0];simp)
       subst this;simp [Builtin.firstCells]
      ·exact run_firstCells_some (P:=P) w2 i.size m b2 m c' news' hnl' (fun j v hj=>by rw [hw2];exact hc2 j v hj)
     have:=zgb (ty:=ty) hd (.inl ⟨e2,hd2⟩) hi hzz hzs h hx (fun w=>by simp [Builtin.lenOf]) (hcell' w (fun _=>rfl)) (hcell' w.drew (fun _=>rfl)) hv hnl ho hk
     have:=this.op
     simpa [builtin,hq] using this
    ·cases hk
   |string=>
    simp only at hc
    split at hc
    ·rename_i h11
     cases hc
     simp only [kop] at hk
     split at hk
     ·rename_i s hev
      rw [hev] at hy
      have hq:=hy.str_inv
      have hfc:∀w2:World,(Builtin.firstCells i.size s.size (.string s)).run P w2= .ok (zas s).toArray w2:=by
       intro w2
       have e1:(s.extract 0 s.size).data.map (fun b=>Value.int .u8 b.toNat)=(zas s).toArray:=by
        apply Array.ext'
        simp [zas,ByteArray.extract_zero_size]
       simp [Builtin.firstCells,←e1]
      have hk2:zcm H el i.size i.bytes (e.ev x') s.size (zas s)=some (v,H'):=by rw [h11.1,h11.2];exact hk
      have:=zgb (ty:=ty) hd (.inr hd2) hi hzz hzs h hx (fun w=>by simp [Builtin.lenOf]) (hfc w) (hfc w.drew) (VL.bytes s) (by rw [zba,h11.1];simp) (zc9 s) hk2
      have:=this.op
      simpa [builtin,hq] using this
     ·cases hk
    ·cases hc
   |_=>cases hc
  |_=>cases hc
 ·
  rename_i x xs
  simp only [Option.bind_eq_some_iff,Option.map_eq_some_iff] at hc
  obtain ⟨x',hx',xs',hxs',rfl⟩:=hc
  simp only [kop,Option.map_eq_some_iff,Prod.mk.injEq] at hk
  obtain ⟨r,hr,rfl,rfl⟩:=hk
  obtain ⟨h1,h2,h3,h4⟩:=zik (P:=P) (ρ:=ρ) hr w
  have hx:=zag he hx'
  have hxs:=zbe he hxs'
  have e1:a.eval x=e.ev x':=by
   have:=VL.eq_of (VL.cons hx VL.nil) (fun z hz y hy=>by
    simp at hz;subst hz
    have:∃k n,e.ev x'= .int k n:=by
     unfold kMx at hr;split at hr
     ·exact ⟨_,_,by assumption⟩
     ·exact ⟨_,_,by assumption⟩
     ·cases hr
    obtain ⟨k,n,hkn⟩:=this
    rw [hkn] at hy⊢
    cases hy;rfl)
   simpa using this
  have e2:xs.map a.eval=xs'.map e.ev:=hxs.eq_of (fun z hz y hy=>by
   obtain ⟨k,n,rfl⟩:=h4 z hz
   cases hy;rfl)
  exact zaj h (v':=r) (by simp [Builtin.max_,e1,e2,h1]) h2
 ·
  rename_i x xs
  simp only [Option.bind_eq_some_iff,Option.map_eq_some_iff] at hc
  obtain ⟨x',hx',xs',hxs',rfl⟩:=hc
  simp only [kop,Option.map_eq_some_iff,Prod.mk.injEq] at hk
  obtain ⟨r,hr,rfl,rfl⟩:=hk
  obtain ⟨h1,h2,h3,h4⟩:=zil (P:=P) (ρ:=ρ) hr w
  have hx:=zag he hx'
  have hxs:=zbe he hxs'
  have e1:a.eval x=e.ev x':=by
   have:=VL.eq_of (VL.cons hx VL.nil) (fun z hz y hy=>by
    simp at hz;subst hz
    have:∃k n,e.ev x'= .int k n:=by
     unfold kMn at hr;split at hr
     ·exact ⟨_,_,by assumption⟩
     ·exact ⟨_,_,by assumption⟩
     ·cases hr
    obtain ⟨k,n,hkn⟩:=this
    rw [hkn] at hy⊢
    cases hy;rfl)
   simpa using this
  have e2:xs.map a.eval=xs'.map e.ev:=hxs.eq_of (fun z hz y hy=>by
   obtain ⟨k,n,rfl⟩:=h4 z hz
   cases hy;rfl)
  exact zaj h (v':=r) (by simp [Builtin.min_,e1,e2,h1]) h2
 ·
  rename_i x y t u
  simp only [Option.bind_eq_some_iff] at hc
  obtain ⟨d,hd,hc⟩:=hc
  cases d with
  |slice el=>
   simp only [Option.bind_eq_some_iff,Option.map_eq_some_iff] at hc
   obtain ⟨i,hi,x',hx',y',hy',rfl⟩:=hc
   have hx:=zag he hx'
   have hy:=zag he hy'
   simp only [kop] at hk
   split at hk
   ·rename_i aa n c bb m c2 hev1 hev2
    rw [hev1] at hx
    rw [hev2] at hy
    have:=(ziJ (xt:=u) (ty:=ty) hd hi h hx hy hk).op
    simpa [builtin] using this
   ·cases hk
  |_=>cases hc
 ·
  rename_i m kx t more
  simp only [Option.bind_eq_some_iff,Option.map_eq_some_iff,zdN] at hc
  obtain ⟨⟨kk,et⟩,⟨d,hd,hc1⟩,m',hm',k',hk',rfl⟩:=hc
  cases d with
  |map kt et2=>
   simp only [Option.map_eq_some_iff] at hc1
   obtain ⟨q,hq,hqe⟩:=hc1
   cases hqe
   simp only [kop,Option.map_eq_some_iff,Prod.mk.injEq] at hk
   obtain ⟨H2,hH2,rfl,rfl⟩:=hk
   have:=(ziZ (ty:=ty) (ats:=(t::more).toArray) hd (zcF hq) (by simp) h (zag he hm') (zag he hk') hH2).op
   simpa [builtin] using this
  |_=>cases hc1
 ·cases hc
set_option maxHeartbeats 1000000 in
theorem zi2 {o:Oper} (he:zaG P ρ e a) (h:HRel P B w0 ρ H w) (hc:zaF P nt o.op=some k) (hn:zdb k=false) (hk:kop k e H=some (v,H')):
  zbo P B w0 ρ (execOp a.eval o) w v H':=by
 obtain ⟨dst,op,type,pos,after,guard⟩:=o
 simp only at hc
 unfold execOp
 simp only
 cases op with
 |move x=>
  simp only [zaF,Option.map_eq_some_iff] at hc
  obtain ⟨y,hy,rfl⟩:=hc
  simp only [kop,Option.some.injEq,Prod.mk.injEq] at hk
  obtain ⟨rfl,rfl⟩:=hk
  exact ⟨ρ,_,w,by simp,List.prefix_refl _,h,.inl ⟨_,rfl,zag he hy⟩⟩
 |assign x=>
  simp only [zaF,Option.map_eq_some_iff] at hc
  obtain ⟨y,hy,rfl⟩:=hc
  simp only [kop,Option.some.injEq,Prod.mk.injEq] at hk
  obtain ⟨rfl,rfl⟩:=hk
  exact ⟨ρ,_,w,by simp,List.prefix_refl _,h,.inl ⟨_,rfl,zag he hy⟩⟩
 |pick c x y=>
  simp only [zaF,Option.bind_eq_some_iff,Option.map_eq_some_iff] at hc
  obtain ⟨c',hc',x',hx',y',hy',rfl⟩:=hc
  simp only [kop] at hk
  split at hk
  ·rename_i t hev
   have:=zag he hc'
   rw [hev] at this
   cases hk
   have hq:=this.bool_inv
   refine ⟨ρ,.value (if t then a.eval x else a.eval y),w,by simp [asBool,hq],List.prefix_refl _,h,.inl ⟨_,rfl,?_⟩⟩
   cases t
   ·exact zag he hy'
   ·exact zag he hx'
  ·cases hk
 |alloc t=>
  simp only [zaF,Option.map_eq_some_iff] at hc
  obtain ⟨z,hz,rfl⟩:=hc
  obtain ⟨i,zz,hi,hzz,rfl,hsz,hgr⟩:=zb2 hz
  simp only [kop,Option.some.injEq,Prod.mk.injEq] at hk
  obtain ⟨rfl,rfl⟩:=hk
  obtain ⟨g1,g2⟩:=zaW (P:=P) (ρ:= []) hgr
  exact (zga hi hzz g1 g2 h).op
 |box t x=>
  simp only [zaF,Option.map_eq_some_iff] at hc
  obtain ⟨y,hy,rfl⟩:=hc
  simp only [kop] at hk
  split at hk
  ·cases hk
  ·rename_i ht
   cases hk
   exact (ziG h (zag he hy) (by simpa using ht)).op
 |build t ps=>
  simp only [zaF,zgk,Option.bind_eq_some_iff] at hc
  obtain ⟨z,hz,d,hd,hc⟩:=hc
  obtain ⟨i,zz,hi,hzz,rfl,hsz,hgr⟩:=zb2 hz
  obtain ⟨g1,g2⟩:=zaW (P:=P) (ρ:=ρ) hgr
  cases d with
  |struct fs=>
   simp only [Option.bind_eq_some_iff,Option.map_eq_some_iff] at hc
   obtain ⟨pl,hpl,ks,hks,rfl⟩:=hc
   simp only [kop,Option.map_eq_some_iff,Prod.mk.injEq] at hk
   obtain ⟨c,hcf,rfl,rfl⟩:=hk
   obtain ⟨p1,p2⟩:=zct he hks
   obtain ⟨c',hf,hv,ho⟩:=zcW (P:=P) (ρ:=ρ) (fun j=>pl.toArray[j]?) _ _ _ zz.cells c p1 p2 g1 g2 hcf
   have hb:P.built t (ps.map fun (j,x)=>(j,a.eval x)).toList=some c':=by
    simp only [Program.built,hi,hd,hzz]
    rw [show fs.toList.mapM (fun f=>(P.info? f.type).map fun i=>(f.offset,i.size))=some pl from hpl]
    simpa using hf
   have hag:=zeX hv ho
   rw [Array.toArray_toList] at hag
   exact zaj h (run_build w t _ c' hb) hag
  |array n el=>
   simp only [Option.bind_eq_some_iff,Option.map_eq_some_iff] at hc
   obtain ⟨ie,hie,ks,hks,rfl⟩:=hc
   simp only [kop,Option.map_eq_some_iff,Prod.mk.injEq] at hk
   obtain ⟨c,hcf,rfl,rfl⟩:=hk
   obtain ⟨p1,p2⟩:=zct he hks
   obtain ⟨c',hf,hv,ho⟩:=zcW (P:=P) (ρ:=ρ) (fun j=>some (j*ie.size,ie.size)) _ _ _ zz.cells c p1 p2 g1 g2 hcf
   have hb:P.built t (ps.map fun (j,x)=>(j,a.eval x)).toList=some c':=by
    simp only [Program.built,hi,hd,hzz,hie]
    simpa using hf
   have hag:=zeX hv ho
   rw [Array.toArray_toList] at hag
   exact zaj h (run_build w t _ c' hb) hag
  |_=>cases hc
 |buildSlice t len ps=>
  simp only [zaF,zjV,Option.bind_eq_some_iff] at hc
  obtain ⟨d,hd,hc⟩:=hc
  cases d with
  |slice el=>
   simp only [Option.bind_eq_some_iff] at hc
   obtain ⟨i,hi,hc⟩:=hc
   split at hc
   ·rename_i hlim
    simp only [Option.bind_eq_some_iff] at hc
    obtain ⟨zv,hzv,hc⟩:=hc
    split at hc
    ·rename_i hgr
     simp only [Option.map_eq_some_iff] at hc
     obtain ⟨ks,hks,rfl⟩:=hc
     simp only [kop,Option.map_eq_some_iff,Prod.mk.injEq] at hk
     obtain ⟨c,hcf,rfl,rfl⟩:=hk
     obtain ⟨p1,p2⟩:=zct he hks
     obtain ⟨g1,g2⟩:=zaW (P:=P) (ρ:= []) hgr
     have hz:(if len*i.size=0 then zv=#[] else ∃zz,i.zero=some zz∧zv=zz.cells):=by
      split at hzv
      ·rename_i h0;rw [if_pos h0];simpa using hzv.symm
      ·rename_i h0
       rw [if_neg h0]
       simp only [Option.map_eq_some_iff] at hzv
       obtain ⟨zz,hzz,rfl⟩:=hzv
       exact ⟨zz,hzz,rfl⟩
     exact (ziH (parts:=ps.map fun (j,x)=>(j,a.eval x)) hd hi hlim hz rfl g1 g2 h (by simpa using p1) (fun j p q hp hq=>by
      obtain ⟨q1,q2⟩:=p2 j p q hp (by simpa using hq)
      simp only [Option.some.injEq] at q1
      exact ⟨q1.symm,q2⟩) hcf).op
    ·cases hc
   ·cases hc
  |_=>cases hc
 |load t x=>
  simp only [zaF,zin,Option.bind_eq_some_iff,Option.map_eq_some_iff] at hc
  obtain ⟨d,hd,i,hi,y,hy,rfl⟩:=hc
  cases hag:zav d with
  |true=>
   simp only [hag,if_true,kop,Option.map_eq_some_iff,Prod.mk.injEq] at hk
   obtain ⟨r,hr,rfl,rfl⟩:=hk
   exact (ziD hd hag hi h (zag he hy) hr).op
  |false=>
   simp only [hag,Bool.false_eq_true,if_false,kop,Option.map_eq_some_iff,Prod.mk.injEq] at hk
   obtain ⟨r,hr,rfl,rfl⟩:=hk
   exact (zjS hd hag h (zag he hy) hr).op
 |store t x y=>
  simp only [zaF,zgl,Option.bind_eq_some_iff] at hc
  obtain ⟨d,hd,i,hi,x',hx',y',hy',hc⟩:=hc
  split at hc
  ·cases hc
   simp only [kop,Option.map_eq_some_iff,Prod.mk.injEq] at hk
   obtain ⟨r,hr,rfl,rfl⟩:=hk
   exact (ziF hi h (zag he hx') (zag he hy') hr).op
  ·split at hc
   ·rename_i h1
    cases hc
    simp only [kop,Option.map_eq_some_iff,Prod.mk.injEq] at hk
    obtain ⟨r,hr,rfl,rfl⟩:=hk
    exact (zjT hi h1 h (zag he hx') (zag he hy') hr).op
   ·cases hc
 |nilCheck x=>
  simp only [zaF,Option.map_eq_some_iff] at hc
  obtain ⟨y,hy,rfl⟩:=hc
  have hx:=zag he hy
  simp only [kop] at hk
  split at hk
  ·rename_i ad hev
   cases hk
   rw [hev] at hx
   obtain ⟨L,hs,hL,hq⟩:=hx.pointer_inv
   exact ⟨ρ,.value (a.eval x),w,by simp [hq],List.prefix_refl _,h,.inl ⟨_,rfl,hx⟩⟩
  ·rename_i f aa cc hev
   cases hk
   rw [hev] at hx
   have hq:∃a' c',a.eval x= .func (.func f) a' c':=by
    generalize a.eval x=q at hx
    cases hx;exact ⟨_,_,rfl⟩
   obtain ⟨a',c',hq⟩:=hq
   exact ⟨ρ,.value (a.eval x),w,by simp [hq],List.prefix_refl _,h,.inl ⟨_,rfl,hx⟩⟩
  ·cases hk
 |binOp op t x y yt=>
  have plain:∀x' y',zau nt x=some x'→zau nt y=some y'→kop (.bin op x' y') e H=some (v,H')→
    zbo P B w0 ρ (do pure (.value (←(do eqGuard op t x y (a.eval x) (a.eval y);binOp op t (a.eval x) (a.eval y))))) w v H':=by
   intro x' y' hx' hy' hk
   simp only [kop,Option.map_eq_some_iff,Prod.mk.injEq] at hk
   obtain ⟨r,hr,rfl,rfl⟩:=hk
   obtain ⟨h1,h2,h3⟩:=ziN (P:=P) t (zag he hx') (zag he hy') hr w
   exact zaj h (by simp only [Sem.run_bind,h3,Result.andThen_ok];exact h1) h2
  have eqs:∀neg:Bool,op=(if neg then .neq else .eql)→zhz P nt neg t x y=some k→
    zbo P B w0 ρ (do pure (.value (←(do eqGuard op t x y (a.eval x) (a.eval y);binOp op t (a.eval x) (a.eval y))))) w v H':=by
   intro neg hop hc
   simp only [zhz,Option.bind_eq_some_iff] at hc
   obtain ⟨kk,hkk,x',hx',y',hy',hc⟩:=hc
   split at hc
   ·cases hc
    rw [←hop] at hk
    exact plain x' y' hx' hy' hk
   ·rename_i hns
    split at hc
    ·cases hc
    ·rename_i hif
     cases hc
     simp only [kop,Option.map_eq_some_iff,Prod.mk.injEq] at hk
     obtain ⟨r,hr,rfl,rfl⟩:=hk
     have:=ziU (zcF hkk) (fun e=>hns (.inl e)) (fun e=>hns (.inr e)) (zag he hx') (zag he hy') hr neg x y (fun hifc=>by
      have:isC y=true:=by
       cases hq:isC y with
       |true=>rfl
       |false=>exact absurd ⟨hifc,hq⟩ hif
      cases y<;>simp [isC] at this
      exact ⟨_,rfl⟩) w
     rw [hop]
     exact zaj h this (.bool _)
  simp only [zaF,zjW] at hc
  cases op<;>simp only at hc<;>first
   |exact eqs false rfl hc
   |exact eqs true rfl hc
   |(simp only [Option.bind_eq_some_iff,Option.map_eq_some_iff] at hc
     obtain ⟨x',hx',y',hy',rfl⟩:=hc
     exact plain x' y' hx' hy' hk)
 |unOp op t x=>
  simp only [zaF,Option.map_eq_some_iff] at hc
  obtain ⟨y,hy,rfl⟩:=hc
  simp only [kop,Option.map_eq_some_iff,Prod.mk.injEq] at hk
  obtain ⟨r,hr,rfl,rfl⟩:=hk
  obtain ⟨h1,h2⟩:=zjU (zag he hy) hr w
  exact zaj h h1 h2
 |convert src dst x=>
  simp only [zaF,zio,Option.bind_eq_some_iff] at hc
  obtain ⟨s,hs,d,hd,y,hy,hc⟩:=hc
  have hx:=zag he hy
  cases d with
  |int q=>
   simp only [Option.some.injEq] at hc
   subst hc
   simp only [kop] at hk
   split at hk
   ·rename_i j n hev
    cases hk
    rw [hev] at hx
    have hq:=hx.int_inv
    exact zaj h (by rw [hq];exact ziO hs hd j n w) (.int _ _)
   ·cases hk
  |string=>
   cases s with
   |slice el=>
    simp only at hc
    split at hc
    ·rename_i hu
     simp only [Option.some.injEq] at hc
     subst hc
     have hel:=zfo hu
     simp only [kop] at hk
     split at hk
     ·rename_i aa n c hev
      simp only [Option.bind_eq_some_iff,Option.map_eq_some_iff,Prod.mk.injEq] at hk
      obtain ⟨l,hl,bs,hbs,rfl,rfl⟩:=hk
      rw [hev] at hx
      exact (b2s_ok hs hel hd h hx hl hbs).op
     ·cases hk
    ·cases hc
   |_=>simp at hc
  |slice el=>
   simp only at hc
   split at hc
   ·rename_i hu
    simp only [Option.some.injEq] at hc
    subst hc
    simp only [Bool.and_eq_true,decide_eq_true_eq,Option.map_eq_some_iff] at hu
    obtain ⟨hu,i,hi,h1⟩:=hu
    have hel:=zfo hu
    simp only [kop] at hk
    split at hk
    ·rename_i ss hev
     split at hk
     ·rename_i hsz
      cases hk
      rw [hev] at hx
      have hq:=hx.str_inv
      dsimp only
      rw [hq]
      exact (s2b_ok hs hd hel hi h1 h ss hsz).op
     ·cases hk
    ·cases hk
   ·cases hc
  |_=>simp at hc
 |makeInterface t x=>
  simp only [zaF,Option.bind_eq_some_iff] at hc
  obtain ⟨d,hd,hc⟩:=hc
  split at hc
  ·cases hc
  ·rename_i hni
   simp only [Option.map_eq_some_iff] at hc
   obtain ⟨y,hy,rfl⟩:=hc
   simp only [kop] at hk
   split at hk
   ·cases hk
   ·cases hk
    exact zaj h (v':= .iface t (a.eval x)) (by cases d<;>simp_all [zbu,Instr.makeInterface,run_underlying hd]) (.iface t (zag he hy))
 |makeFunc fn x y=>
  cases fn with
  |func f=>
   simp only [zaF,Option.bind_eq_some_iff,Option.map_eq_some_iff] at hc
   obtain ⟨x',hx',y',hy',rfl⟩:=hc
   simp only [kop,Option.some.injEq,Prod.mk.injEq] at hk
   obtain ⟨rfl,rfl⟩:=hk
   have h1:=zbe he hx'
   have h2:=zbe he hy'
   refine zaj h (v':= .func (.func f) (x.map a.eval) (y.map a.eval)) (by simp [Instr.makeFunc]) ?_
   refine .func _ (by have:=h1.1;simpa using this) (fun i p q hp hq=>h1.2 i p q (by simpa using hp) (by simpa using hq)) (by have:=h2.1;simpa using this) (fun i p q hp hq=>h2.2 i p q (by simpa using hp) (by simpa using hq))
  |_=>simp [zaF] at hc
 |makeMap t r=>
  cases r with
  |none=>
   simp only [zaF,Option.some.injEq] at hc
   subst hc
   simp only [kop,Option.some.injEq,Prod.mk.injEq] at hk
   obtain ⟨rfl,rfl⟩:=hk
   exact (ziY t h).op
  |some r=>simp [zaF] at hc
 |makeSlice t l c=>
  simp only [zaF,zi1,Option.bind_eq_some_iff] at hc
  obtain ⟨d,hd,hc⟩:=hc
  cases d with
  |slice el=>
   simp only [Option.bind_eq_some_iff,Option.map_eq_some_iff] at hc
   obtain ⟨i,hi,z,hz,l',hl',c',hc',rfl⟩:=hc
   obtain ⟨i2,zz,hi2,hzz,rfl,hzs,hgr⟩:=zb2 hz
   rw [hi] at hi2;cases hi2
   obtain ⟨g1,g2⟩:=zaW (P:=P) (ρ:= []) hgr
   simp only [kop] at hk
   exact (ziI hd hi hzz hzs g1 g2 h (zag he hl') (zag he hc') hk).op
  |_=>cases hc
 |slice t x lo hi mx=>
  simp only [zaF,zgm] at hc
  cases mx with
  |some m=>simp at hc
  |none=>
   simp only [Option.isSome_none,Bool.false_eq_true,if_false,Option.bind_eq_some_iff] at hc
   obtain ⟨d,hd,x',hx',lo',hlo',hi',hhi',hc⟩:=hc
   have hx:=zag he hx'
   cases d with
   |string=>
    simp only [Option.some.injEq] at hc
    subst hc
    simp only [kop] at hk
    split at hk
    ·rename_i s hev
     simp only [Option.bind_eq_some_iff,Option.map_eq_some_iff,Prod.mk.injEq] at hk
     obtain ⟨l,hl,hh,hhh,r,hr,rfl,rfl⟩:=hk
     rw [hev] at hx
     have hq:=hx.str_inv
     dsimp only
     rw [hq]
     obtain ⟨h1,h2⟩:=ziL (P:=P) (ρ:=ρ) hd s (zcc he hlo' hl) (zcc he hhi' hhh) hr w
     exact zaj h h1 h2
    ·cases hk
   |array n el=>
    simp only [Option.map_eq_some_iff] at hc
    obtain ⟨i,hi0,rfl⟩:=hc
    simp only [kop,Option.bind_eq_some_iff] at hk
    obtain ⟨l,hl,hh,hhh,hk⟩:=hk
    split at hk
    ·rename_i ad hev
     simp only [Option.map_eq_some_iff,Prod.mk.injEq] at hk
     obtain ⟨r,hr,rfl,rfl⟩:=hk
     rw [hev] at hx
     exact (ziK hd hi0 h hx (zcc he hlo' hl) (zcc he hhi' hhh) hr).op
    ·cases hk
   |slice el=>
    simp only [Option.map_eq_some_iff] at hc
    obtain ⟨i,hi0,rfl⟩:=hc
    simp only [kop,Option.bind_eq_some_iff] at hk
    obtain ⟨l,hl,hk⟩:=hk
    cases hi' with
    |none=>
     simp only [Option.map_eq_some_iff,Prod.mk.injEq] at hk
     obtain ⟨r,hr,rfl,rfl⟩:=hk
     have hin:hi=none:=by
      cases hi with
      |none=>rfl
      |some q=>simp [ze0] at hhi'
     subst hin
     exact (zgd hd hi0 h hx (zcc he hlo' hl) (.inl ⟨rfl,rfl⟩) hr).op
    |some hq'=>
     simp only [Option.bind_eq_some_iff,Option.map_eq_some_iff,Prod.mk.injEq] at hk
     obtain ⟨hh,hhh,r,hr,rfl,rfl⟩:=hk
     have hI:=zcc (d:=0) he hhi' hhh
     have:∃kq n,hi.map a.eval=some (.int kq n)∧some hh=some n:=by
      rcases hI with ⟨h1,h2⟩|⟨kq,h1⟩
      ·cases hi with
       |none=>simp [ze0] at hhi'
       |some q=>simp at h1
      ·exact ⟨kq,hh,h1,rfl⟩
     exact (zgd hd hi0 h hx (zcc he hlo' hl) (.inr this) hr).op
   |_=>simp at hc
 |fieldAddr t x n=>
  simp only [zaF,zjX,Option.bind_eq_some_iff] at hc
  obtain ⟨d,hd,hc⟩:=hc
  cases d with
  |struct fs=>
   simp only [Option.bind_eq_some_iff] at hc
   obtain ⟨f,hf,i,hi,hc⟩:=hc
   split at hc
   ·cases hc
   ·rename_i h0
    simp only [Option.map_eq_some_iff] at hc
    obtain ⟨y,hy,rfl⟩:=hc
    have hx:=zag he hy
    simp only [kop] at hk
    split at hk
    ·rename_i ad hev
     cases hk
     rw [hev] at hx
     obtain ⟨v',h1,h2⟩:=ziS hd hf hi h0 hx w
     exact zaj h h1 h2
    ·cases hk
  |_=>cases hc
 |field t x n=>
  simp only [zaF,zjY,Option.bind_eq_some_iff] at hc
  obtain ⟨d,hd,hc⟩:=hc
  cases d with
  |struct fs=>
   simp only [Option.bind_eq_some_iff,Option.map_eq_some_iff] at hc
   obtain ⟨f,hf,d2,hd2,i,hi,y,hy,rfl⟩:=hc
   have hx:=zag he hy
   cases hag:zav d2 with
   |true=>
    simp only [hag,if_true,kop] at hk
    split at hk
    ·rename_i cs hev
     simp only [Option.map_eq_some_iff,Prod.mk.injEq] at hk
     obtain ⟨l,hl,rfl,rfl⟩:=hk
     rw [hev] at hx
     obtain ⟨v',h1,h2⟩:=zhv hd hf hd2 hag hi hx hl w
     exact zaj h h1 h2
    ·cases hk
   |false=>
    simp only [hag,Bool.false_eq_true,if_false,kop] at hk
    split at hk
    ·rename_i cs hev
     simp only [Option.map_eq_some_iff,Prod.mk.injEq] at hk
     obtain ⟨l,hl,rfl,rfl⟩:=hk
     rw [hev] at hx
     obtain ⟨v',h1,h2⟩:=ziP hd hf hd2 hag hx hl w
     exact zaj h h1 h2
    ·cases hk
  |_=>cases hc
 |indexAddr t x j=>
  simp only [zaF,zjZ,Option.bind_eq_some_iff] at hc
  obtain ⟨d,hd,x',hx',j',hj',hc⟩:=hc
  have hx:=zag he hx'
  have hj:=zag he hj'
  cases d with
  |slice el=>
   simp only [Option.map_eq_some_iff] at hc
   obtain ⟨i,hi,rfl⟩:=hc
   simp only [kop] at hk
   split at hk
   ·rename_i ad n c kq q hev1 hev2
    split at hk
    ·rename_i hb
     cases hk
     rw [hev1] at hx
     rw [hev2] at hj
     dsimp only
     rw [hj.int_inv]
     obtain ⟨v',h1,h2⟩:=ziT (k:=kq) hd hi hx hb w
     exact zaj h h1 h2
    ·cases hk
   ·cases hk
  |array len el=>
   simp only [Option.map_eq_some_iff] at hc
   obtain ⟨i,hi,rfl⟩:=hc
   simp only [kop] at hk
   split at hk
   ·rename_i ad kq q hev1 hev2
    split at hk
    ·rename_i hb
     cases hk
     rw [hev1] at hx
     rw [hev2] at hj
     dsimp only
     rw [hj.int_inv]
     obtain ⟨v',h1,h2⟩:=zhx (k:=kq) hd hi hx hb w
     exact zaj h h1 h2
    ·cases hk
   ·cases hk
  |_=>simp at hc
 |index t x j=>
  simp only [zaF,zj0,Option.bind_eq_some_iff] at hc
  obtain ⟨d,hd,x',hx',j',hj',hc⟩:=hc
  have hx:=zag he hx'
  have hj:=zag he hj'
  cases d with
  |string=>
   simp only [Option.some.injEq] at hc
   subst hc
   simp only [kop] at hk
   split at hk
   ·rename_i s kq q hev1 hev2
    split at hk
    ·rename_i hb
     simp only [Option.map_eq_some_iff,Prod.mk.injEq] at hk
     obtain ⟨b,hbb,rfl,rfl⟩:=hk
     rw [hev1] at hx
     rw [hev2] at hj
     dsimp only
     rw [hj.int_inv,hx.str_inv]
     exact zaj h (ziR hd s hb hbb w) (.int _ _)
    ·cases hk
   ·cases hk
  |array len el=>
   simp only [Option.bind_eq_some_iff] at hc
   obtain ⟨d2,hd2,i,hi,hc⟩:=hc
   split at hc
   ·rename_i hag
    simp only [Option.some.injEq] at hc
    subst hc
    simp only [kop] at hk
    split at hk
    ·rename_i cs kq q hev1 hev2
     split at hk
     ·rename_i hb
      simp only [Option.map_eq_some_iff,Prod.mk.injEq] at hk
      obtain ⟨l,hl,rfl,rfl⟩:=hk
      rw [hev1] at hx
      rw [hev2] at hj
      dsimp only
      rw [hj.int_inv]
      obtain ⟨v',h1,h2⟩:=zhw (k:=kq) hd hd2 hi hag hx hb hl w
      exact zaj h h1 h2
     ·cases hk
    ·cases hk
   ·rename_i hag
    split at hc
    ·rename_i h1s
     simp only [Option.some.injEq] at hc
     subst hc
     simp only [kop] at hk
     split at hk
     ·rename_i cs kq q hev1 hev2
      split at hk
      ·rename_i hb
       simp only [Option.map_eq_some_iff,Prod.mk.injEq] at hk
       obtain ⟨l,hl,rfl,rfl⟩:=hk
       rw [hev1] at hx
       rw [hev2] at hj
       dsimp only
       rw [hj.int_inv]
       obtain ⟨v',h1,h2⟩:=ziQ (k:=kq) hd hd2 hi h1s (by simpa using hag) hx hb hl w
       exact zaj h h1 h2
      ·cases hk
     ·cases hk
    ·cases hc
  |_=>simp at hc
 |extract x j=>
  simp only [zaF,Option.map_eq_some_iff] at hc
  obtain ⟨y,hy,rfl⟩:=hc
  have hx:=zag he hy
  simp only [kop] at hk
  split at hk
  ·rename_i vs hev
   simp only [Option.map_eq_some_iff,Prod.mk.injEq] at hk
   obtain ⟨r,hr,rfl,rfl⟩:=hk
   rw [hev] at hx
   have hq:∃vs',a.eval x= .tuple vs'∧VL P ρ vs.toList vs'.toList:=by
    generalize a.eval x=q at hx
    cases hx with
    |tuple hs hv=>exact ⟨_,rfl,VL.arr hs hv⟩
   obtain ⟨vs',hq,hvl⟩:=hq
   obtain ⟨y,hy,hvv⟩:=hvl.get hr
   have hy':vs'[j]? =some y:=by simpa using hy
   exact zaj h (v':=y) (by rw [hq];simp [Instr.extract,hy']) hvv
  ·cases hk
 |lookup t m kx ok=>
  simp only [zaF,Option.bind_eq_some_iff,Option.map_eq_some_iff,zdN] at hc
  obtain ⟨⟨kk,et⟩,⟨d,hd,hc1⟩,z,hz,m',hm',k',hk',rfl⟩:=hc
  cases d with
  |map kt et2=>
   simp only [Option.map_eq_some_iff] at hc1
   obtain ⟨q,hq,hqe⟩:=hc1
   cases hqe
   obtain ⟨i,hi,hzz,hgr⟩:=zdO hz
   simp only [kop] at hk
   have hHH:H'=H:=by
    simp only [Option.bind_eq_some_iff] at hk
    obtain ⟨p,hp,hk⟩:=hk
    split at hk
    ·simp only [Option.map_eq_some_iff] at hk
     obtain ⟨r,hr,hk⟩:=hk
     split at hk<;>(simp only [Prod.mk.injEq] at hk;exact hk.2.symm)
    ·cases hk
   subst hHH
   exact (ziV hd (zcF hq) hi hzz (zbn hgr) h (zag he hm') (zag he hk') hk).op
  |_=>cases hc1
 |mapUpdate t m kx x=>
  simp only [zaF,Option.bind_eq_some_iff,Option.map_eq_some_iff,zdN] at hc
  obtain ⟨⟨kk,et⟩,⟨d,hd,hc1⟩,m',hm',k',hk',x',hx',rfl⟩:=hc
  cases d with
  |map kt et2=>
   simp only [Option.map_eq_some_iff] at hc1
   obtain ⟨q,hq,hqe⟩:=hc1
   cases hqe
   simp only [kop,Option.map_eq_some_iff,Prod.mk.injEq] at hk
   obtain ⟨H2,hH2,rfl,rfl⟩:=hk
   exact (zgj hd (zcF hq) h (zag he hm') (zag he hk') (zag he hx') hH2).op
  |_=>cases hc1
 |insert t m kx x=>
  simp only [zaF,Option.bind_eq_some_iff,Option.map_eq_some_iff,zdN] at hc
  obtain ⟨⟨kk,et⟩,⟨d,hd,hc1⟩,m',hm',k',hk',x',hx',rfl⟩:=hc
  cases d with
  |map kt et2=>
   simp only [Option.map_eq_some_iff] at hc1
   obtain ⟨q,hq,hqe⟩:=hc1
   cases hqe
   simp only [kop,Option.map_eq_some_iff,Prod.mk.injEq] at hk
   obtain ⟨H2,hH2,rfl,rfl⟩:=hk
   exact (zgj hd (zcF hq) h (zag he hm') (zag he hk') (zag he hx') hH2).op
  |_=>cases hc1
 |mapEntry t m kx=>
  simp only [zaF,Option.bind_eq_some_iff,Option.map_eq_some_iff,zdN] at hc
  obtain ⟨⟨kk,et⟩,⟨d,hd,hc1⟩,z,hz,m',hm',k',hk',rfl⟩:=hc
  cases d with
  |map kt et2=>
   simp only [Option.map_eq_some_iff] at hc1
   obtain ⟨q,hq,hqe⟩:=hc1
   cases hqe
   obtain ⟨i,hi,hzz,hgr⟩:=zdO hz
   simp only [kop] at hk
   exact (ziW hd (zcF hq) hi hzz (zbn hgr) h (zag he hm') (zag he hk') hk).op
  |_=>cases hc1
 |entryStore t m s x=>
  simp only [zaF,Option.bind_eq_some_iff,Option.map_eq_some_iff] at hc
  obtain ⟨m',hm',s',hs',x',hx',rfl⟩:=hc
  simp only [kop,Option.map_eq_some_iff,Prod.mk.injEq] at hk
  obtain ⟨H2,hH2,rfl,rfl⟩:=hk
  exact (ziX (t:=t) h (zag he hm') (zag he hs') (zag he hx') hH2).op
 |typeAssert x xt t ok=>
  simp only [zaF,zj1,Option.bind_eq_some_iff] at hc
  obtain ⟨d,hd,hc⟩:=hc
  split at hc
  ·cases hc
  ·rename_i hni
   simp only [Option.bind_eq_some_iff,Option.map_eq_some_iff] at hc
   obtain ⟨z,hz,y,hy,rfl⟩:=hc
   obtain ⟨i,hi,hzz,hgr⟩:=zdO hz
   simp only [kop] at hk
   have hHH:H'=H:=by
    unfold zfN at hk
    split at hk
    ·split at hk
     ·simp only [Option.some.injEq,Prod.mk.injEq] at hk;exact hk.2.symm
     ·split at hk
      ·simp only [Option.some.injEq,Prod.mk.injEq] at hk;exact hk.2.symm
      ·cases hk
    ·split at hk
     ·simp only [Option.some.injEq,Prod.mk.injEq] at hk;exact hk.2.symm
     ·cases hk
    ·cases hk
   subst hHH
   exact (zi0 (xt:=xt) hd (by simpa using hni) hi hzz (zbn hgr) h (zag he hy) hk).op
 |call c=>
  simp only [zaF,zfp] at hc
  split at hc
  ·rename_i b hb
   have:=ze1 (ty:=type) (cs:=c.args.map fun| .const _=>true|_=>false) he h hc hk
   have e1:(c.args.toList.map a.eval).toArray=c.args.map a.eval:=by apply Array.ext';simp
   rw [e1,Array.toArray_toList] at this
   simp only [resolve,hb]
   exact this
  ·split at hc
   ·simp only [Option.map_eq_some_iff] at hc
    obtain ⟨_,_,rfl⟩:=hc
    cases hn
   ·cases hc
  ·simp only [Option.bind_eq_some_iff,Option.map_eq_some_iff] at hc
   obtain ⟨_,_,_,_,rfl⟩:=hc
   cases hn
  ·simp only [Option.bind_eq_some_iff,Option.map_eq_some_iff] at hc
   obtain ⟨_,_,_,_,rfl⟩:=hc
   cases hn
 |_=>simp [zaF] at hc
theorem zcu {o:Op} {k:KOp} (h:cOp P nt o=some k):zaF P nt o=some k∨k= .nev:=by
 unfold cOp at h
 cases hq:zaF P nt o with
 |none=>rw [hq] at h;simp at h;exact .inr h.symm
 |some k'=>rw [hq] at h;simp at h;subst h;exact .inl rfl
theorem zj2 {o:Oper} (he:zaG P ρ e a) (h:HRel P B w0 ρ H w) (hc:cOp P nt o.op=some k) (hn:zdb k=false) (hk:kop k e H=some (v,H')):
  zbo P B w0 ρ (execOp a.eval o) w v H':=by
 rcases zcu hc with hc|rfl
 ·exact zi2 he h hc hn hk
 ·simp [kop] at hk
end
theorem Env.get_set (e:Env) (i j:Nat) (v:Value):(e.set i v).get j=if j=i then v else e.get j:=by
 induction e generalizing i j with
 |nil=>
  induction i generalizing j with
  |zero=>cases j<;>simp [Env.set,Env.get]
  |succ i ih=>
   cases j with
   |zero=>simp [Env.set,Env.get]
   |succ j=>simp [Env.set,Env.get,ih]
 |cons x e ih=>
  cases i with
  |zero=>cases j<;>simp [Env.set,Env.get]
  |succ i=>
   cases j with
   |zero=>simp [Env.set,Env.get]
   |succ j=>simp [Env.set,Env.get,ih]
def zaX (nt:Nat):Option Nat→Bool
 |none=>true
 |some d=>decide (d< nt)
def zcv (ops:Array Oper):Option (Nat×Bool)→Option (Option (Nat×Bool))
 |none=>some none
 |some (j,w)=>((ops[j]?).bind (·.dst)).map fun s=>some (s,w)
def zdP (op:Op) (k:KOp):Bool:=
 match op with
 | .call _=>true
 |_=> !zdb k
def zfq (P:Program) (nt:Nat) (ops:Array Oper) (o:Oper):Option zac:=
 if zaX nt o.dst then (zcv ops o.guard).bind fun g=>(cOp P nt o.op).bind fun k=>if zdP o.op k then some (.op o.dst g k) else none else none
def zaS (P:Program) (nt:Nat) (ops:Array Oper):List Oper→Option (List zac)
 | []=>some []
 |o::os=>(zfq P nt ops o).bind fun s=>(zaS P nt ops os).map (s::·)
section
variable {P:Program} {B:Fz} {w0:World} {ds:List Deferred}
def AOK (ds:List Deferred) (nt:Nat) (a:Act):Prop:=nt≤a.tmps.size∧a.defers=ds
theorem put_ok {ρ:Rho} {e:Env} {a:Act} {nt:Nat} {dst:Option Nat} {v v':Value} (he:zaG P ρ e a) (ha:AOK ds nt a) (hd:zaX nt dst=true) (hv:VRel P ρ v v'):
  zaG P ρ (zaP e dst v) (a.put dst v')∧AOK ds nt (a.put dst v'):=by
 cases dst with
 |none=>exact ⟨he,ha⟩
 |some d=>
  have hlt:d< a.tmps.size:=by
   have h1:d< nt:=by simpa [zaX] using hd
   exact Nat.lt_of_lt_of_le h1 ha.1
  refine ⟨fun n=>?_,by simpa [Act.put] using ha.1,ha.2⟩
  simp only [zaP,Act.put,Env.get_set]
  by_cases hn:n=d
  ·subst hn;simp [hlt,hv]
  ·rw [if_neg hn]
   have:(a.tmps.setIfInBounds d v').getD n undef=a.tmps.getD n undef:=by
    simp [Array.getElem?_setIfInBounds_ne (fun e=>hn e.symm)]
   rw [this];exact he n
theorem zgo {ρ:Rho} {e:Env} {a:Act} {ops:Array Oper} {o:Oper} {g:Option (Nat×Bool)} (he:zaG P ρ e a) (hg:zcv ops o.guard=some g):
  wants e g=Region.wanted o (yielded ops a.tmps):=by
 unfold Region.wanted
 cases hgd:o.guard with
 |none=>rw [hgd] at hg;simp [zcv] at hg;subst hg;rfl
 |some p=>
  obtain ⟨j,w⟩:=p
  rw [hgd] at hg
  simp only [zcv,Option.map_eq_some_iff] at hg
  obtain ⟨s,hs,rfl⟩:=hg
  simp only [wants,yielded,hs,Option.bind_some]
  have hv:=he s
  rw [Array.getD_eq_getD_getElem?] at hv
  cases ht:a.tmps[s]? with
  |none=>
   rw [ht] at hv
   generalize e.get s=x at hv
   cases hv with
   |tuple=>simp
  |some y=>
   rw [ht] at hv
   simp only [Option.getD_some] at hv
   generalize e.get s=x at hv
   cases hv<;>simp
def zaV (P:Program) (B:Fz) (w0:World) (call:zat):Prop:=
 ∀f args H v H',call f args H=some (v,H')→zbk P f=true∧∀(ρ:Rho) (w:World) (cargs:List Value),HRel P B w0 ρ H w→VL P ρ args cargs→
  Calls P f cargs.toArray w fun e w'=>∃ρ' cv,e= .returned cv∧ρ<+:ρ'∧VRel P ρ' v cv∧HRel P B w0 ρ' H' w'
def zcw (P:Program) (t:TypeId) (ptr:Bool):Recv→Bool
 | .as=>match P.underlying t with
   |some (.pointer _)=>ptr
   |some _=> !ptr
   |none=>false
 | .ld=>match P.underlying t with
   |some (.pointer el)=> !ptr && (match P.underlying el with|some d=> !zav d|none=>false)
   |_=>false
 | .ldn n=>match P.underlying t with
   |some (.pointer el)=> !ptr && (match P.underlying el,P.info? el with|some d,some i=>zav d && i.size==n|_,_=>false)
   |_=>false
def zdQ (P:Program) (t:TypeId) (name:String) (f:FuncId) (r:Recv):Bool:=
 match P.info? t with
 |some i=>match i.methods.find? (·.name==name) with
  |some m=>m.path.isEmpty && (match m.func with|some (f',ptr)=>f'==f && zcw P t ptr r|none=>false)
  |none=>false
 |none=>false
def za0 (P:Program) (S:Sys):Prop:=∀t name f r,S.M t name=some (f,r)→zdQ P t name f r=true
theorem zcM (t:TypeId) (b:Addr) (s1 s2:String) (w:World):(Builtin.ssaWrapNilChk_ #[t] t #[.pointer (some b),strVal s1,strVal s2]).run P w= .ok (.pointer (some b)) w:=rfl
theorem zgp {t:TypeId} {name:String} {f:FuncId} {r:Recv} (hm:zdQ P t name f r=true) {ρ:Rho} {H:Heap} {w:World} (h:HRel P B w0 ρ H w) {v v' x:Value} (hv:VRel P ρ v v') (hx:zbO H v r=some x):
  ∃x',(method (P.types.size+Made.depth) t v' name).run P w= .ok (f,x') w∧VRel P ρ x x':=by
 unfold zdQ at hm
 split at hm
 ·rename_i i hi
  split at hm
  ·rename_i m hmf
   simp only [Bool.and_eq_true] at hm
   obtain ⟨hpath,hm⟩:=hm
   split at hm
   ·rename_i f' ptr hfn
    simp only [Bool.and_eq_true,beq_iff_eq] at hm
    obtain ⟨rfl,hr⟩:=hm
    obtain ⟨k,hk⟩:∃k,P.types.size+Made.depth=k+1:=⟨P.types.size+Made.depth - 1,by have:0< Made.depth:=by decide
                                                                                  omega⟩
    rw [hk]
    have hp:m.path.toList= []:=by simpa using hpath
    have hrun:∀x',(receiverAt t (.val v') ptr (some ((name.splitOn ".").getLastD name))).run P w= .ok x' w→(method (k+1) t v' name).run P w= .ok (f',x') w:=by
     intro x' hx'
     simp only [method,Sem.run_bind,typeInfo,run_program,Result.andThen_ok,hi,Sem.run_pure,hmf,hp,follow,hfn,hpath,if_true,hx']
    cases r with
    |as=>
     simp only [zbO,Option.some.injEq] at hx
     subst hx
     refine ⟨v',hrun _ ?_,hv⟩
     simp only [zcw] at hr
     split at hr
     ·rename_i el hu
      subst hr
      simp [receiverAt,run_underlying hu,Place.get]
     ·rename_i d hnp hu
      have hptr:ptr=false:=by simpa using hr
      subst hptr
      cases d<;>first
       |(exact (hnp _ hu).elim)
       |(exact (hnp _ rfl).elim)
       |simp [receiverAt,run_underlying hu,Place.get]
     ·cases hr
    |ld=>
     simp only [zcw] at hr
     split at hr
     ·rename_i el hu
      simp only [Bool.and_eq_true,Bool.not_eq_true'] at hr
      obtain ⟨rfl,hr⟩:=hr
      split at hr
      ·rename_i d hd
       have hna:zav d=false:=by simpa using hr
       obtain ⟨b,x',rfl,h1,h2⟩:=zeW hd hna h hv hx
       refine ⟨x',hrun _ ?_,h2⟩
       simp only [receiverAt,Sem.run_bind,run_underlying hu,Place.get,Sem.run_pure,Result.andThen_ok,zcM,asAddr,h1]
      ·cases hr
     ·cases hr
    |ldn n=>
     simp only [zcw] at hr
     split at hr
     ·rename_i el hu
      simp only [Bool.and_eq_true,Bool.not_eq_true'] at hr
      obtain ⟨rfl,hr⟩:=hr
      split at hr
      ·rename_i d ii hd hii
       simp only [Bool.and_eq_true,beq_iff_eq] at hr
       obtain ⟨hag,rfl⟩:=hr
       obtain ⟨b,x',rfl,h1,h2⟩:=zdJ hd hag hii h hv hx
       refine ⟨x',hrun _ ?_,h2⟩
       simp only [receiverAt,Sem.run_bind,run_underlying hu,Place.get,Sem.run_pure,Result.andThen_ok,zcM,asAddr,h1]
      ·cases hr
     ·cases hr
   ·cases hm
  ·cases hm
 ·cases hm
theorem zbF {f:FuncId} (hf:zbk P f=true) (args:Array Value) (w:World):(callFunc f args).run P w= .ok (.enter f args) w:=by
 unfold zbk at hf
 split at hf
 ·rename_i fn hfn
  simp only [Bool.and_eq_true,bne_iff_ne,ne_eq] at hf
  have h2:fn.body≠none:=by
   intro hb;rw [hb] at hf;simp at hf
  simp [callFunc,run_program,hfn,hf.2,h2]
 ·cases hf
theorem zhB {S:Sys} {call:zat} (hS:za0 P S) (hcall:∀B w0,zaV P B w0 call) {nt:Nat} {o:Oper} {k:KOp} {e:Env} {a:Act} {ρ:Rho} {H H':Heap} {w:World} {v:Value}
  (he:zaG P ρ e a) (h:HRel P B w0 ρ H w) (hc:cOp P nt o.op=some k) (hoc:zdP o.op k=true) (hk:zaz S call k e H=some (v,H')) {next:Act→World→Prop} {Q:Exit→Act→World→Prop}
  (hn:∀ρ' v' w',ρ<+:ρ'→VRel P ρ' v v'→HRel P B w0 ρ' H' w'→next (a.put o.dst v') w'):o.wp P a w next Q:=by
 have enter:∀(f:FuncId) (args:List Value) (cargs:Array Value),VL P ρ args cargs.toList→call f args H=some (v,H')→(execOp a.eval o).run P w=(callFunc f cargs).run P w→o.wp P a w next Q:=by
  intro f args cargs hv hcl hrun
  obtain ⟨hf,hC⟩:=hcall B w0 f args H v H' hcl
  unfold Oper.wp
  rw [hrun,zbF hf,Oper.upon_enter]
  have:=hC ρ w cargs.toList h hv
  rw [Array.toArray_toList] at this
  refine this.mono ?_
  rintro e' w' ⟨ρ',cv,rfl,hp,hvv,hH⟩
  exact hn ρ' cv w' hp hvv hH
 cases hcl:zdb k with
 |false=>
  have hk':kop k e H=some (v,H'):=by
   unfold zaz at hk
   split at hk
   ·cases hcl
   ·cases hcl
   ·cases hcl
   ·cases hcl
   ·exact hk
  obtain ⟨ρ',r,w',hr,hp,hH,hv⟩:=zj2 he h hc hcl hk'
  unfold Oper.wp
  rw [hr]
  rcases hv with ⟨v',rfl,hv⟩|⟨rfl,rfl⟩
  ·exact hn ρ' v' w' hp hv hH
  ·exact hn ρ' undef w' hp VRel.undef hH
 |true=>
  replace hc:zaF P nt o.op=some k:=by
   rcases zcu hc with h|rfl
   ·exact h
   ·cases hcl
  obtain ⟨dst,op,type,pos,after,guard⟩:=o
  simp only at hc hn enter⊢
  simp only at hoc
  cases op
  case call c=>
   simp only [zaF,zfp] at hc
   split at hc
   ·exfalso
    unfold zbQ at hc
    split at hc
    ·simp only [Option.bind_eq_some_iff] at hc
     obtain ⟨d,hd,y,hy,hc⟩:=hc
     cases d<;>simp at hc<;>subst hc<;>cases hcl
    ·simp only [Option.bind_eq_some_iff] at hc
     obtain ⟨d,hd,hc⟩:=hc
     cases d<;>simp only at hc<;>try cases hc
     simp only [Option.bind_eq_some_iff] at hc
     obtain ⟨_,_,_,_,_,_,_,_,d2,hd2,hc⟩:=hc
     cases d2<;>simp only at hc<;>try cases hc
     ·split at hc<;>cases hc;cases hcl
     ·cases hcl
    ·simp only [Option.bind_eq_some_iff,Option.map_eq_some_iff] at hc
     obtain ⟨_,_,_,_,rfl⟩:=hc;cases hcl
    ·simp only [Option.bind_eq_some_iff,Option.map_eq_some_iff] at hc
     obtain ⟨_,_,_,_,rfl⟩:=hc;cases hcl
    ·simp only [Option.bind_eq_some_iff] at hc
     obtain ⟨d,hd,hc⟩:=hc
     cases d<;>simp only at hc<;>try cases hc
     simp only [Option.bind_eq_some_iff,Option.map_eq_some_iff] at hc
     obtain ⟨_,_,_,_,_,_,rfl⟩:=hc;cases hcl
    ·simp only [Option.bind_eq_some_iff,Option.map_eq_some_iff] at hc
     obtain ⟨_,_,_,_,_,_,rfl⟩:=hc;cases hcl
    ·cases hc
   ·rename_i f hf
    split at hc
    ·simp only [Option.map_eq_some_iff] at hc
     obtain ⟨args,hargs,rfl⟩:=hc
     simp only [zaz] at hk
     have:=zbe he hargs
     refine enter f (args.map e.ev) (c.args.map a.eval) (by simpa using this) hk ?_
     simp [execOp,resolve,hf,Act.eval,Deferred.ofValue,invoke]
    ·cases hc
   ·rename_i x hx hf
    simp only [Option.bind_eq_some_iff,Option.map_eq_some_iff] at hc
    obtain ⟨y,hy,args,hargs,rfl⟩:=hc
    simp only [zaz] at hk
    split at hk
    ·rename_i f first cap hev
     have hv:=zag he hy
     rw [hev] at hv
     have hq:∃f1 c1,a.eval x= .func (.func f) f1 c1∧VL P ρ first.toList f1.toList∧VL P ρ cap.toList c1.toList:=by
      generalize a.eval x=q at hv
      cases hv with
      |func _ h1 h2 h3 h4=>exact ⟨_,_,rfl,VL.arr h1 h2,VL.arr h3 h4⟩
     obtain ⟨f1,c1,hq,hv1,hv2⟩:=hq
     have:=zbe he hargs
     refine enter f (first.toList++args.map e.ev++cap.toList) (f1++c.args.map a.eval++c1) (by simpa using (hv1.append this).append hv2) hk ?_
     simp [execOp,resolve,hf,hq,Deferred.ofValue,invoke]
    ·cases hk
   ·rename_i r name hf
    simp only [Option.bind_eq_some_iff,Option.map_eq_some_iff] at hc
    obtain ⟨y,hy,args,hargs,rfl⟩:=hc
    simp only [zaz] at hk
    split at hk
    ·rename_i t u hev
     simp only [Option.bind_eq_some_iff] at hk
     obtain ⟨⟨f,rk⟩,hm,x,hx,hk⟩:=hk
     have hv:=zag he hy
     rw [hev] at hv
     have hq:∃u',a.eval r= .iface t u'∧VRel P ρ u u':=by
      generalize a.eval r=q at hv
      cases hv with
      |iface _ h1=>exact ⟨_,rfl,h1⟩
     obtain ⟨u',hq,hu⟩:=hq
     obtain ⟨x',hx',hxv⟩:=zgp (hS t name f rk hm) h hu hx
     have:=zbe he hargs
     refine enter f (x::args.map e.ev) (#[x']++c.args.map a.eval) (by simpa using VL.cons hxv this) hk ?_
     have h0:(#[Value.iface t u']++c.args.map a.eval)[0]? =some (.iface t u'):=by simp [Array.getElem?_append]
     have h1:(c.args.map a.eval).extract 0 c.args.size=c.args.map a.eval:=by
      have:=Array.extract_size (xs:=c.args.map a.eval)
      rw [Array.size_map] at this;exact this
     simp [execOp,resolve,hf,hq,invoke,callMethod,run_program,h0,hx',h1]
    ·cases hk
  all_goals
   exfalso
   simp [zdP,hcl] at hoc
theorem gnd1_eq {ρ:Rho} {x y:Value} (h:gnd1 x=true) (hv:VRel P ρ x y):y=x:=by
 cases hv<;>first
  |rfl
  |(simp [gnd1] at h;done)
theorem gnd1_rel {ρ:Rho} {x:Value} (h:gnd1 x=true):VRel P ρ x x∧zaq x=true:=by
 cases x<;>first
  |exact ⟨.bool _,rfl⟩
  |exact ⟨.int _ _,rfl⟩
  |exact ⟨.string _,rfl⟩
  |(simp [gnd1] at h;done)
theorem zdR {ρ:Rho} {x y:Value} (h:zb9 x=true) (hv:VRel P ρ x y):y=x:=by
 have arr:∀{xs ys:Array Value},xs.toList.all gnd1=true→xs.size=ys.size→(∀(i:Nat) a b,xs[i]? =some a→ys[i]? =some b→VRel P ρ a b)→ys=xs:=by
  intro xs ys ha hs hh
  rw [List.all_eq_true] at ha
  apply Array.ext hs.symm
  intro i h1 h2
  exact gnd1_eq (ha xs[i] (by simp)) (hh i _ _ (Array.getElem?_eq_getElem h2) (Array.getElem?_eq_getElem h1))
 cases hv with
 |agg hs hh ho=>rw [arr h hs hh]
 |tuple hs hh=>rw [arr h hs hh]
 |bool=>rfl
 |int=>rfl
 |string=>rfl
 |_=>simp [zb9,gnd1] at h
theorem zdc {ρ:Rho} {x:Value} (h:zb9 x=true):VRel P ρ x x:=by
 have arr:∀{xs:Array Value},xs.toList.all gnd1=true→∀(i:Nat) a,xs[i]? =some a→VRel P ρ a a∧zaq a=true:=by
  intro xs ha i a hi
  rw [List.all_eq_true] at ha
  exact gnd1_rel (ha a (by have:=Array.mem_of_getElem? hi;simpa using this))
 cases x with
 |agg xs=>exact .agg rfl (fun i a b ha hb=>by rw [ha] at hb;cases hb;exact (arr h i a ha).1) (fun i a ha=>(arr h i a ha).2)
 |tuple xs=>exact .tuple rfl (fun i a b ha hb=>by rw [ha] at hb;cases hb;exact (arr h i a ha).1)
 |bool b=>exact .bool _
 |int k n=>exact .int _ _
 |string s=>exact .string _
 |_=>simp [zb9,gnd1] at h
theorem HRel.nil0 (W:World):HRel P (Fz.lo W.heap.size) W [] [] W:=
 ⟨Bel.refl _ _,fun _ h=>h.elim id False.elim,rfl,fun b L h=>by simp at h,fun b L h=>by simp at h,fun b L h=>by simp at h,fun b b' L L' h=>by simp at h⟩
theorem ze2 {nt:Nat} {op:Op} {f:FuncId} {args:List Opd} (hc:cOp P nt op=some (.call f args)) (hoc:zdP op (.call f args)=true):∃c:Call,op= .call c∧c.callee= .value (.func f)∧zbM nt c.args.toList=some args:=by
 replace hc:zaF P nt op=some (.call f args):=by
  rcases zcu hc with h|h
  ·exact h
  ·cases h
 cases op
 case call c=>
  refine ⟨c,rfl,?_⟩
  simp only [zaF,zfp] at hc
  split at hc
  ·exfalso
   unfold zbQ at hc
   split at hc
   ·simp only [Option.bind_eq_some_iff] at hc
    obtain ⟨d,hd,y,hy,hc⟩:=hc
    cases d<;>simp at hc
   ·simp only [Option.bind_eq_some_iff] at hc
    obtain ⟨d,hd,hc⟩:=hc
    cases d<;>simp only at hc<;>try cases hc
    simp only [Option.bind_eq_some_iff] at hc
    obtain ⟨_,_,_,_,_,_,_,_,d2,hd2,hc⟩:=hc
    cases d2<;>simp only at hc<;>try cases hc
    ·split at hc<;>cases hc
   ·simp only [Option.bind_eq_some_iff,Option.map_eq_some_iff] at hc
    obtain ⟨_,_,_,_,hc⟩:=hc;cases hc
   ·simp only [Option.bind_eq_some_iff,Option.map_eq_some_iff] at hc
    obtain ⟨_,_,_,_,hc⟩:=hc;cases hc
   ·simp only [Option.bind_eq_some_iff] at hc
    obtain ⟨d,hd,hc⟩:=hc
    cases d<;>simp only at hc<;>try cases hc
    simp only [Option.bind_eq_some_iff,Option.map_eq_some_iff] at hc
    obtain ⟨_,_,_,_,_,_,hc⟩:=hc;cases hc
   ·simp only [Option.bind_eq_some_iff,Option.map_eq_some_iff] at hc
    obtain ⟨_,_,_,_,_,_,hc⟩:=hc;cases hc
   ·cases hc
  ·rename_i g hg
   split at hc
   ·simp only [Option.map_eq_some_iff] at hc
    obtain ⟨as,has,hc⟩:=hc
    cases hc
    exact ⟨hg,has⟩
   ·cases hc
  ·simp only [Option.bind_eq_some_iff,Option.map_eq_some_iff] at hc
   obtain ⟨_,_,_,_,hc⟩:=hc;cases hc
  ·simp only [Option.bind_eq_some_iff,Option.map_eq_some_iff] at hc
   obtain ⟨_,_,_,_,hc⟩:=hc;cases hc
 all_goals
  exfalso
  simp [zdP,zdb] at hoc
def AsP (k k':KOp):Prop:=k'=k∨∃f args,k= .call f args∧k'= .callp f args
theorem zgq {S:Sys} {call:zat} (hS:za0 P S) (hcall:∀B w0,zaV P B w0 call) {nt:Nat} {o:Oper} {k k':KOp} {e:Env} {a:Act} {ρ:Rho} {H H':Heap} {w:World} {v:Value}
  (he:zaG P ρ e a) (h:HRel P B w0 ρ H w) (hc:cOp P nt o.op=some k) (hoc:zdP o.op k=true) (hp:AsP k k') (hk:zaz S call k' e H=some (v,H')) {next:Act→World→Prop} {Q:Exit→Act→World→Prop}
  (hn:∀ρ' v' w',ρ<+:ρ'→VRel P ρ' v v'→HRel P B w0 ρ' H' w'→next (a.put o.dst v') w'):o.wp P a w next Q:=by
 rcases hp with rfl|⟨f,args,rfl,rfl⟩
 ·exact zhB hS hcall he h hc hoc hk hn
 obtain ⟨c,hop,hf,hargs⟩:=ze2 hc hoc
 simp only [zaz] at hk
 split at hk
 case isFalse=>cases hk
 rename_i hg
 simp only [Option.bind_eq_some_iff] at hk
 obtain ⟨⟨v2,Hx⟩,hcl,hk⟩:=hk
 split at hk
 case isFalse=>cases hk
 rename_i hgv
 simp only [Option.some.injEq,Prod.mk.injEq] at hk
 obtain ⟨rfl,rfl⟩:=hk
 have hvl:=zbe he hargs
 have hvl0:VL P [] (args.map e.ev) (c.args.toList.map a.eval):=by
  rw [List.all_eq_true] at hg
  refine ⟨hvl.1,fun i x y hx hy=>?_⟩
  have hgx:=hg x (List.mem_of_getElem? hx)
  have:=zdR hgx (hvl.2 i x y hx hy)
  rw [this];exact zdc hgx
 obtain ⟨hfo,hC⟩:=hcall (Fz.lo w.heap.size) w f _ [] v2 Hx hcl
 have hrun:(execOp a.eval o).run P w=(callFunc f (c.args.map a.eval)).run P w:=by
  obtain ⟨dst,op,type,pos,after,guard⟩:=o
  simp only at hop
  subst hop
  simp [execOp,resolve,hf,Act.eval,Deferred.ofValue,invoke]
 unfold Oper.wp
 rw [hrun,zbF hfo,Oper.upon_enter]
 have:=hC [] w (c.args.toList.map a.eval) (HRel.nil0 w) hvl0
 have e1:(c.args.toList.map a.eval).toArray=c.args.map a.eval:=by
  apply Array.ext'
  rw [Array.toList_map]
 rw [e1] at this
 refine this.mono ?_
 rintro e' w' ⟨ρ',cv,rfl,hpp,hvv,hH⟩
 have:=zdR hgv hvv
 subst this
 exact hn ρ cv w' (List.prefix_refl _) (zdc hgv) (h.world (hH.below.mono fun k hk=> .inl (h.base k hk)) (fun i hi=>hH.below.block i (.inl hi)))
theorem zcG {nt:Nat} {ops:Array Oper} {o:Oper} {s:zac} (h:zfq P nt ops o=some s):
  ∃g k,s= .op o.dst g k∧zaX nt o.dst=true∧zcv ops o.guard=some g∧cOp P nt o.op=some k∧zdP o.op k=true:=by
 unfold zfq at h
 split at h
 ·rename_i hd
  simp only [Option.bind_eq_some_iff] at h
  obtain ⟨g,hg,k,hk,h⟩:=h
  split at h
  ·rename_i ho;cases h;exact ⟨g,k,rfl,hd,hg,hk,ho⟩
  ·cases h
 ·cases h
theorem zgr {S:Sys} {call:zat} (hS:za0 P S) (hcall:∀B w0,zaV P B w0 call) {nt:Nat} {ops:Array Oper} {i:Nat} {o:Oper} {g:Option (Nat×Bool)} {k k':KOp} (ho:ops[i]? =some o)
  (hd:zaX nt o.dst=true) (hg:zcv ops o.guard=some g) (hc:cOp P nt o.op=some k) (hoc:zdP o.op k=true) (hp:AsP k k') {e e':Env} {a:Act} {ρ:Rho} {H H':Heap} {w:World}
  (he:zaG P ρ e a) (h:HRel P B w0 ρ H w) (ha:AOK ds nt a) (hk:zaw S call (.op o.dst g k') e H=some (e',H')) {K:Act→World→Prop} {Q:Exit→Act→World→Prop}
  (hn:∀ρ' a' w',ρ<+:ρ'→zaG P ρ' e' a'→HRel P B w0 ρ' H' w'→AOK ds nt a'→K a' w'):wpOp P ops Q i K a w:=by
 unfold wpOp
 simp only [ho]
 simp only [zaw] at hk
 rw [←zgo he hg]
 split
 ·rename_i hw
  rw [if_pos hw] at hk
  simp only [Option.map_eq_some_iff,Prod.mk.injEq] at hk
  obtain ⟨⟨v,H2⟩,hx,rfl,rfl⟩:=hk
  refine .inl (zgq hS hcall he h hc hoc hp hx ?_)
  intro ρ' v' w' hp hv hH
  obtain ⟨h1,h2⟩:=put_ok (he.mono hp) ha hd hv
  exact hn ρ' _ w' hp h1 hH h2
 ·rename_i hw
  rw [if_neg hw] at hk
  cases hk
  obtain ⟨h1,h2⟩:=put_ok he ha hd VRel.undef
  exact hn ρ _ w (List.prefix_refl _) h1 h h2
theorem zbR {S:Sys} {call:zat} (hS:za0 P S) (hcall:∀B w0,zaV P B w0 call) {nt:Nat} {ops:Array Oper} {Q:Exit→Act→World→Prop}:∀(os:List Oper) (i:Nat) (ks:List zac) (e e':Env) (H H':Heap) (ρ:Rho) (a:Act) (w:World),
  ops.toList.drop i=os→zaS P nt ops os=some ks→zao S call ks e H=some (e',H')→zaG P ρ e a→HRel P B w0 ρ H w→AOK ds nt a→
  (∀ρ' a' w',ρ<+:ρ'→zaG P ρ' e' a'→HRel P B w0 ρ' H' w'→AOK ds nt a'→Q .normal a' w')→wpOps P ops Q (List.range' i os.length) a w
 | [],i,ks,e,e',H,H',ρ,a,w,hdrop,hc,hk,he,h,ha,hQ=>by
   simp [zaS] at hc;subst hc
   simp [zao] at hk
   obtain ⟨rfl,rfl⟩:=hk
   exact hQ ρ a w (List.prefix_refl _) he h ha
 |o::os,i,ks,e,e',H,H',ρ,a,w,hdrop,hc,hk,he,h,ha,hQ=>by
  simp only [zaS,Option.bind_eq_some_iff,Option.map_eq_some_iff] at hc
  obtain ⟨s,hs,l,hl,rfl⟩:=hc
  obtain ⟨g,k,rfl,hd,hg,hc,hoc⟩:=zcG hs
  simp only [zao,Option.bind_eq_some_iff] at hk
  obtain ⟨⟨e1,H1⟩,h1,hk⟩:=hk
  have ho:ops[i]? =some o:=by have:=congrArg (·[0]?) hdrop;simpa using this
  have hdr:ops.toList.drop (i+1)=os:=by have:=congrArg List.tail hdrop;simpa using this
  simp only [List.length_cons,List.range'_succ]
  rw [wpOps_cons]
  refine zgr hS hcall ho hd hg hc hoc (.inl rfl) he h ha h1 ?_
  intro ρ1 a1 w1 hp1 he1 hH1 ha1
  exact zbR hS hcall os (i+1) l e1 e' H1 H' ρ1 a1 w1 hdr hl hk he1 hH1 ha1 (fun ρ' a' w' hp'=>hQ ρ' a' w' (hp1.trans hp'))
end
inductive Cls where
 |pure|read|eff
 deriving DecidableEq
def cls:KOp→Cls
 | .mv _| .pick _ _ _| .build _ _| .nck _| .bin _ _ _| .eqv _ _ _ _| .un _ _| .cvt _ _| .mki _ _| .mkf _ _ _| .slS _ _ _| .fad _ _| .fld _ _| .fldn _ _ _| .iad _ _ _| .iada _ _ _ _| .idS _ _
 | .ida _ _ _| .idan _ _ _ _| .xt _ _| .lenS _| .lenL _| .mx _ _| .mn _ _| .tas _ _ _ _| .callp _ _=> .pure
 | .ld _| .ldn _ _| .b2s _ _| .slc _ _ _ _ _| .sla _ _ _ _ _ _| .lenM _| .lkp _ _ _ _ _=> .read
 |_=> .eff
def zhC:Option Opd→List Opd
 |none=> []
 |some x=> [x]
def KOp.opds:KOp→List Opd
 | .mv x| .box _ x| .ld x| .ldn _ x| .nck x| .un _ x| .cvt _ x| .s2b _ x| .b2s _ x| .mki _ x| .fad _ x| .fld _ x| .fldn _ _ x| .xt x _| .lenS x| .lenL x| .lenM x| .tas _ _ _ x=> [x]
 | .pick a b c| .mup _ a b c| .mes a b c=> [a,b,c]
 | .alloc _ _| .mkm| .nev=> []
 | .build _ ps| .bsl _ _ _ ps=>ps.map (·.2.2)
 | .st a b| .stn _ a b| .bin _ a b| .eqv _ _ a b| .mks _ _ _ a b| .iad _ a b| .iada _ _ a b| .idS a b| .ida _ a b| .idan _ _ a b| .app _ _ _ a b| .appS _ a b| .cpy _ _ a b| .del _ a b| .lkp _ _ _ a b
 | .men _ _ a b=> [a,b]
 | .mkf _ a b=>a++b
 | .slS x lo hi| .slc _ _ x lo hi| .sla _ _ _ x lo hi=>x::(zhC lo++zhC hi)
 | .mx x xs| .mn x xs=>x::xs
 | .call _ xs| .callp _ xs=>xs
 | .callv x xs| .inv x _ xs=>x::xs
def Opd.slot:Opd→Option Nat
 | .t n=>some n
 | .c _=>none
theorem zcd (S:Sys) (call:zat) {k:KOp} {e e2:Env} (H:Heap) (h:∀x∈k.opds,e.ev x=e2.ev x):zaz S call k e H=zaz S call k e2 H:=by
 have hm:∀xs:List Opd,(∀x∈xs,e.ev x=e2.ev x)→xs.map e.ev=xs.map e2.ev:=fun xs hx=>List.map_congr_left hx
 have hp:∀ps:List (Nat×Nat×Opd),(∀x∈ps.map (·.2.2),e.ev x=e2.ev x)→zaR e ps=zaR e2 ps:=fun ps hx=>by
  unfold zaR
  refine List.map_congr_left fun p hpm=>?_
  rw [hx p.2.2 (List.mem_map.2 ⟨p,hpm,rfl⟩)]
 have hi:∀(d:Int) (o:Option Opd),(∀x∈zhC o,e.ev x=e2.ev x)→evI e d o=evI e2 d o:=fun d o hx=>by
  cases o with
  |none=>rfl
  |some x=>simp only [evI,hx x (by simp [zhC])]
 cases k<;>simp only [KOp.opds] at h<;>simp only [zaz,kop]
 case build z ps=>rw [hp ps h]
 case bsl t l z ps=>rw [hp ps h]
 case mkf f a b=>rw [hm a (fun x hx=>h x (by simp [hx])),hm b (fun x hx=>h x (by simp [hx]))]
 case slS x lo hi'=>rw [h x (by simp),hi _ lo (fun y hy=>h y (by simp [hy]))];simp only [hi _ hi' (fun y hy=>h y (by simp [hy]))]
 case sla t n z x lo hi'=>rw [h x (by simp),hi _ lo (fun y hy=>h y (by simp [hy]))];simp only [hi _ hi' (fun y hy=>h y (by simp [hy]))]
 case slc t n x lo hi'=>
  rw [h x (by simp),hi _ lo (fun y hy=>h y (by simp [hy]))]
  cases hi' with
  |none=>rfl
  |some y=>simp only [hi 0 (some y) (fun z hz=>h z (by simp [hz]))]
 case mx x xs=>rw [h x (by simp),hm xs (fun y hy=>h y (by simp [hy]))]
 case mn x xs=>rw [h x (by simp),hm xs (fun y hy=>h y (by simp [hy]))]
 case call f xs=>rw [hm xs h]
 case callp f xs=>rw [hm xs h]
 case callv x xs=>rw [h x (by simp),hm xs (fun y hy=>h y (by simp [hy]))]
 case inv x n xs=>rw [h x (by simp),hm xs (fun y hy=>h y (by simp [hy]))]
 all_goals simp_all
theorem zfS {k:KOp} (hc:cls k= .pure) {e:Env} {H H':Heap} {v:Value} (h:kop k e H=some (v,H')):H'=H∧∀H2,kop k e H2=some (v,H2):=by
 cases k<;>simp only [cls] at hc<;>try (cases hc;done)
 case callp f args=>cases h
 all_goals
  simp only [kop] at h⊢
  first
   |(simp only [Option.some.injEq,Prod.mk.injEq] at h;obtain ⟨rfl,rfl⟩:=h;exact ⟨rfl,fun _=>rfl⟩)
   |(simp only [Option.map_eq_some_iff,Prod.mk.injEq] at h;obtain ⟨r,hr,rfl,rfl⟩:=h;exact ⟨rfl,fun _=>by simp [hr]⟩)
   |(split at h<;>first
    |(cases h;done)
    |(simp only [Option.some.injEq,Prod.mk.injEq] at h;obtain ⟨rfl,rfl⟩:=h;exact ⟨rfl,fun _=>rfl⟩)
    |(rename_i hq;simp only [Option.some.injEq,Prod.mk.injEq] at h;obtain ⟨rfl,rfl⟩:=h;exact ⟨rfl,fun _=>by simp [hq]⟩)
    |(simp only [Option.map_eq_some_iff,Prod.mk.injEq] at h;obtain ⟨r,hr,rfl,rfl⟩:=h;exact ⟨rfl,fun _=>by simp [hr]⟩)
    |(simp only [Option.bind_eq_some_iff,Option.map_eq_some_iff,Prod.mk.injEq] at h;obtain ⟨a,ha,b,hb,r,hr,rfl,rfl⟩:=h;exact ⟨rfl,fun _=>by simp [ha,hb,hr]⟩)
    |(split at h<;>first
     |(cases h;done)
     |(rename_i hq;simp only [Option.some.injEq,Prod.mk.injEq] at h;obtain ⟨rfl,rfl⟩:=h;exact ⟨rfl,fun _=>by simp [hq]⟩)
     |(rename_i hq;simp only [Option.map_eq_some_iff,Prod.mk.injEq] at h;obtain ⟨r,hr,rfl,rfl⟩:=h;exact ⟨rfl,fun _=>by simp [hq,hr]⟩)))
   |(unfold zfN at h⊢
     split at h<;>first
      |(cases h;done)
      |(split at h<;>first
       |(cases h;done)
       |(rename_i hq;simp only [Option.some.injEq,Prod.mk.injEq] at h;obtain ⟨rfl,rfl⟩:=h;exact ⟨rfl,fun _=>by simp [hq]⟩)
       |(split at h<;>first
        |(cases h;done)
        |(rename_i hq1 hq2;simp only [Option.some.injEq,Prod.mk.injEq] at h;obtain ⟨rfl,rfl⟩:=h;exact ⟨rfl,fun _=>by simp [hq1,hq2]⟩))))
theorem zen {S:Sys} {call:zat} {k:KOp} (hc:cls k= .pure) {e:Env} {H H':Heap} {v:Value} (h:zaz S call k e H=some (v,H')):H'=H∧∀H2,zaz S call k e H2=some (v,H2):=by
 cases k<;>first
  |(cases hc;done)
  |exact zfS hc h
  |skip
 rename_i f args
 simp only [zaz] at h⊢
 split at h
 ·rename_i hg
  simp only [Option.bind_eq_some_iff] at h
  obtain ⟨p,h1,h⟩:=h
  split at h
  ·rename_i hv
   simp only [Option.some.injEq,Prod.mk.injEq] at h
   obtain ⟨rfl,rfl⟩:=h
   exact ⟨rfl,fun H2=>by rw [if_pos hg,h1];simp [hv]⟩
  ·cases h
 ·cases h
theorem zcH {k:KOp} (hc:cls k= .read) {e:Env} {H H':Heap} {v:Value} (h:kop k e H=some (v,H')):H'=H:=by
 cases k<;>simp only [cls] at hc<;>try (cases hc;done)
 case ld a=>simp only [kop,Option.map_eq_some_iff,Prod.mk.injEq] at h;obtain ⟨r,hr,rfl,rfl⟩:=h;rfl
 case ldn n a=>simp only [kop,Option.map_eq_some_iff,Prod.mk.injEq] at h;obtain ⟨r,hr,rfl,rfl⟩:=h;rfl
 case lenM a=>simp only [kop,Option.map_eq_some_iff,Prod.mk.injEq] at h;obtain ⟨r,hr,rfl,rfl⟩:=h;rfl
 case b2s t x=>
  simp only [kop] at h
  split at h
  ·simp only [Option.bind_eq_some_iff,Option.map_eq_some_iff,Prod.mk.injEq] at h;obtain ⟨l,hl,r,hr,rfl,rfl⟩:=h;rfl
  ·cases h
 case sla t n z x lo hi=>
  simp only [kop,Option.bind_eq_some_iff] at h
  obtain ⟨l,hl,y,hy,h⟩:=h
  split at h
  ·simp only [Option.map_eq_some_iff,Prod.mk.injEq] at h;obtain ⟨r,hr,rfl,rfl⟩:=h;rfl
  ·cases h
 case slc t n x lo hi=>
  simp only [kop,Option.bind_eq_some_iff] at h
  obtain ⟨l,hl,h⟩:=h
  cases hi with
  |none=>simp only [Option.map_eq_some_iff,Prod.mk.injEq] at h;obtain ⟨r,hr,rfl,rfl⟩:=h;rfl
  |some y=>simp only [Option.bind_eq_some_iff,Option.map_eq_some_iff,Prod.mk.injEq] at h;obtain ⟨a,ha,r,hr,rfl,rfl⟩:=h;rfl
 case lkp kk z ok m kx=>
  simp only [kop,Option.bind_eq_some_iff] at h
  obtain ⟨p,hp,h⟩:=h
  split at h
  ·simp only [Option.map_eq_some_iff] at h
   obtain ⟨r,hr,h⟩:=h
   split at h<;>(simp only [Prod.mk.injEq] at h;exact h.2.symm)
  ·cases h
theorem veq1_eq {x y:Value} (h:veq1 x y=true):x=y:=by
 cases x<;>cases y<;>simp_all [veq1]
theorem zfr:∀{xs ys:List Value},zeV xs ys=true→xs=ys
 | [],[],_=>rfl
 | [],_::_,h=>by simp [zeV] at h
 |_::_,[],h=>by simp [zeV] at h
 |x::xs,y::ys,h=>by
  simp only [zeV,Bool.and_eq_true] at h
  rw [veq1_eq h.1,zfr h.2]
theorem zi3 {x y:Value} (h:veq x y=true):x=y:=by
 unfold veq at h
 split at h
 ·rw [Array.ext' (zfr h)]
 ·exact veq1_eq h
def zac.dst:zac→Option Nat
 | .op d _ _=>d
 | .chk d _ _=>some d
def zac.g:zac→Option (Nat×Bool)
 | .op _ g _=>g
 | .chk _ g _=>g
def zac.k:zac→KOp
 | .op _ _ k=>k
 | .chk _ _ k=>k
def ze3:Option (Nat×Bool)→List Nat
 |none=> []
 |some (s,_)=> [s]
def zac.reads (s:zac):List Nat:=s.k.opds.filterMap Opd.slot++ze3 s.g
def zac.names (s:zac):List Nat:=s.dst.toList++s.reads
def mask1 (ms:List Nat) (o:Oper):Nat:=o.after.toList.foldl (fun s e=>if Region.binds .any e then s|||2 ^ e.on|||ms.getD e.on 0 else s) 0
def masks (ops:List Oper):List Nat:=ops.foldl (fun ms o=>ms++ [mask1 ms o]) []
def bef (ms:List Nat) (i j:Nat):Bool:=(ms.getD j 0).testBit i
def zcN:zac→Option zac
 | .op (some d) g k=>some (.chk d g k)
 |_=>none
def za4 (ks:List zac):List (Nat×List Nat)→Option (List zac)
 | []=>some []
 |(i,cs)::pl=>(ks[i]?).bind fun s=>(cs.mapM fun j=>(ks[j]?).bind zcN).bind fun l=>(za4 ks pl).map fun r=>s::(l++r)
def zbl:zac→Bool
 | .op (some _) none (.alloc _ _)=>true
 | .op (some _) none (.mks _ _ _ _ _)=>true
 |_=>false
def zhD (o:Oper):Bool:=match o.op with
 | .alloc _=>true
 | .makeSlice _ _ _=>true
 |_=>false
def zeo (o:Oper):Bool:=match o.op with
 | .select _ _=>false
 |_=>true
def zi4 (ks:List zac) (ops:List Oper) (done:List Nat):Option Nat:=
 let ready:=(List.range ks.length).filter fun j=> !done.contains j && ((ops[j]?).map fun o=>o.after.all fun e=> !Region.binds .any e||done.contains e.on).getD false
 match ready.find? fun j=>((ks[j]?).map fun s=>decide (cls s.k≠ .eff)).getD false with
 |some j=>some j
 |none=>match ready.find? fun j=>((ks[j]?).map fun s=> !zbl s).getD false with
  |some j=>some j
  |none=>ready.head?
def zce (ks:List zac) (ops:List Oper) (ms:List Nat):Nat→List Nat→List (Nat×List Nat)
 |0,_=> []
 |n+1,done=>match zi4 ks ops done with
  |none=> []
  |some x=>
   let cs:=if ((ks[x]?).map fun s=>decide (cls s.k= .eff)).getD false then
    done.filter fun j=>((ks[j]?).map fun s=>decide (cls s.k= .read)).getD false && !bef ms j x else []
   (x,cs)::zce ks ops ms n (done++ [x])
def zab (ks:List zac) (i:Nat):zac:=ks.getD i (.op none none .mkm)
def zdd (ks:List zac) (ops:List Oper) (ms:List Nat) (pl:List (Nat×List Nat)):Bool:=
 let n:=ks.length
 let π:=pl.map (·.1)
 let ix:=List.range n
 decide (ops.length=n) && decide (π.length=n) && ix.all (fun i=>π.contains i) && decide π.Nodup && π.all (fun i=>decide (i< n)) &&
 ix.all (fun j=>match ops[j]? with
  |some o=>decide (ms.getD j 0=mask1 ms o) && o.after.all fun e=> !Region.binds .any e||(decide (e.on< j) && decide (π.idxOf e.on< π.idxOf j))
  |none=>false) &&
 ix.all (fun i=>match (zab ks i).dst with
  |none=>true
  |some d=>ix.all fun j=>i==j|| !(zab ks j).names.contains d||bef ms i j||bef ms j i) &&
 ix.all (fun i=>cls (zab ks i).k != .eff||ix.all fun j=>i==j||cls (zab ks j).k != .eff||bef ms i j||bef ms j i||(zbl (zab ks i) && zbl (zab ks j))||
  (zbl (zab ks i) && decide (π.idxOf j< π.idxOf i))||(zbl (zab ks j) && decide (π.idxOf i< π.idxOf j))) &&
 ix.all (fun j=>cls (zab ks j).k != .read||ix.all fun x=>cls (zab ks x).k != .eff||
  (if π.idxOf x< π.idxOf j then bef ms x j else bef ms j x||(((pl.map (·.2)).getD (π.idxOf x) []).contains j && (match (zab ks j).dst with|some d=> !(zab ks j).reads.contains d|none=>false) &&
   ((List.range n).all fun r=> !(decide (π.idxOf j< r) && decide (r≤π.idxOf x))||match (zab ks (π.getD r 0)).dst with
     |none=>true
     |some d=> !(zab ks j).names.contains d)))) &&
 ix.all (fun u=> !zbl (zab ks u)||ix.all fun j=>u==j||((!bef ms u j||ix.all fun w=>cls (zab ks w).k != .eff|| !decide (π.idxOf w< π.idxOf u)||bef ms w u||bef ms w j) &&
  (match ops[j]?,(zab ks u).dst with
   |some o,some d=> !(o.looksAt ops.toArray).contains d||bef ms u j
   |_,_=>true))) &&
 ops.all zeo &&
 ix.all (fun u=> !zbl (zab ks u)||match ops[u]? with
  |some o=>zhD o
  |none=>false)
def toP:zac→zac
 | .op d g (.call f args)=> .op d g (.callp f args)
 |s=>s
def zfs (P:Program) (nt:Nat) (ops:Array Oper):Option (List zac):=
 (zaS P nt ops ops.toList).bind fun ks=>
  let ms:=masks ops.toList
  let pl:=zce ks ops.toList ms ks.length []
  if zdd ks ops.toList ms pl then za4 ks pl else
   let pl:=zce (ks.map toP) ops.toList ms ks.length []
   if zdd (ks.map toP) ops.toList ms pl then za4 (ks.map toP) pl else none
section
variable {P:Program} {B:Nat} {w0:World}
theorem zb3 {nt:Nat} {ops:Array Oper}:∀{os:List Oper} {ks:List zac},zaS P nt ops os=some ks→ks.length=os.length∧∀(i:Nat) o,os[i]? =some o→∃s,ks[i]? =some s∧zfq P nt ops o=some s
 | [],ks,h=>by simp [zaS] at h;subst h;exact ⟨rfl,fun i o ho=>by simp at ho⟩
 |o::os,ks,h=>by
  simp only [zaS,Option.bind_eq_some_iff,Option.map_eq_some_iff] at h
  obtain ⟨s,hs,l,hl,rfl⟩:=h
  obtain ⟨h1,h2⟩:=zb3 hl
  refine ⟨by simp [h1],fun i o' ho=>?_⟩
  cases i with
  |zero=>simp at ho;subst ho;exact ⟨s,rfl,hs⟩
  |succ i=>simp at ho;simpa using h2 i o' ho
theorem zb5 (S:Sys) (call:zat):∀(l r:List zac) (e:Env) (H:Heap),zao S call (l++r) e H=(zao S call l e H).bind fun p=>zao S call r p.1 p.2
 | [],r,e,H=>by simp [zao]
 |s::l,r,e,H=>by
  simp only [List.cons_append,zao]
  cases zaw S call s e H with
  |none=>rfl
  |some p=>simp [zb5 S call l r p.1 p.2]
theorem zfT {S:Sys} {call:zat} {d:Nat} {g:Option (Nat×Bool)} {k:KOp} {e e':Env} {H H':Heap} (h:zaw S call (.chk d g k) e H=some (e',H')):e'=e∧H'=H:=by
 simp only [zaw] at h
 split at h
 ·simp only [Option.bind_eq_some_iff] at h
  obtain ⟨p,hp,h⟩:=h
  split at h
  ·cases h;exact ⟨rfl,rfl⟩
  ·cases h
 ·cases h;exact ⟨rfl,rfl⟩
theorem zep {S:Sys} {call:zat} {ks:List zac} {e:Env} {H:Heap}:∀{cs:List Nat} {l:List zac} {e':Env} {H':Heap},cs.mapM (fun j=>(ks[j]?).bind zcN)=some l→zao S call l e H=some (e',H')→
  e'=e∧H'=H∧∀j∈cs,∃c,(ks[j]?).bind zcN=some c∧zaw S call c e H=some (e,H)
 | [],l,e',H',hm,hr=>by
   simp at hm;subst hm
   simp [zao] at hr
   exact ⟨hr.1.symm,hr.2.symm,fun j hj=>by simp at hj⟩
 |j::cs,l,e',H',hm,hr=>by
  simp only [List.mapM_cons,Option.bind_eq_bind,Option.bind_eq_some_iff,Option.pure_def,Option.some.injEq] at hm
  obtain ⟨c,hc,l',hl',rfl⟩:=hm
  simp only [zao,Option.bind_eq_some_iff] at hr
  obtain ⟨⟨e1,H1⟩,h1,hr⟩:=hr
  obtain ⟨s,hs,hcs⟩:=hc
  have hch:∃d g k,c= .chk d g k:=by
   unfold zcN at hcs;split at hcs
   ·cases hcs;exact ⟨_,_,_,rfl⟩
   ·cases hcs
  obtain ⟨d,g,k,rfl⟩:=hch
  obtain ⟨rfl,rfl⟩:=zfT h1
  obtain ⟨h2,h3,h4⟩:=zep (by simpa using hl') hr
  refine ⟨h2,h3,fun i hi=>?_⟩
  rcases List.mem_cons.1 hi with rfl|hi
  ·exact ⟨_,by rw [hs];exact hcs,h1⟩
  ·exact h4 i hi
theorem zeq {S:Sys} {call:zat} {ks:List zac}:∀{pl:List (Nat×List Nat)} {steps:List zac} {e ef:Env} {H Hf:Heap},za4 ks pl=some steps→zao S call steps e H=some (ef,Hf)→
  ∃(E:Nat→Env) (Hh:Nat→Heap),E 0=e∧Hh 0=H∧E pl.length=ef∧Hh pl.length=Hf∧∀(p i:Nat) cs,pl[p]? =some (i,cs)→zaw S call (zab ks i) (E p) (Hh p)=some (E (p+1),Hh (p+1))∧
   ∀j∈cs,∃c,(ks[j]?).bind zcN=some c∧zaw S call c (E (p+1)) (Hh (p+1))=some (E (p+1),Hh (p+1))
 | [],steps,e,ef,H,Hf,hp,hr=>by
   simp [za4] at hp;subst hp
   simp [zao] at hr
   exact ⟨fun _=>e,fun _=>H,rfl,rfl,hr.1,hr.2,fun p i cs h=>by simp at h⟩
 |(i,cs)::pl,steps,e,ef,H,Hf,hp,hr=>by
  simp only [za4,Option.bind_eq_some_iff,Option.map_eq_some_iff] at hp
  obtain ⟨s,hs,l,hl,r,hr',rfl⟩:=hp
  simp only [zao,Option.bind_eq_some_iff] at hr
  obtain ⟨⟨e1,H1⟩,h1,hr⟩:=hr
  rw [zb5] at hr
  simp only [Option.bind_eq_some_iff] at hr
  obtain ⟨⟨e2,H2⟩,h2,hr⟩:=hr
  obtain ⟨rfl,rfl,hch⟩:=zep hl h2
  obtain ⟨E,Hh,hE,hH,hEf,hHf,hat⟩:=zeq hr' hr
  refine ⟨fun p=>match p with|0=>e|p+1=>E p,fun p=>match p with|0=>H|p+1=>Hh p,rfl,rfl,hEf,hHf,fun p j ds hpj=>?_⟩
  cases p with
  |zero=>
   simp at hpj
   obtain ⟨rfl,rfl⟩:=hpj
   have hst:zab ks i=s:=by simp [zab,List.getD,hs]
   refine ⟨?_,fun j hj=>?_⟩
   ·show zaw S call (zab ks i) e H=some (E 0,Hh 0)
    rw [hst,hE,hH];exact h1
   ·show ∃c,(ks[j]?).bind zcN=some c∧zaw S call c (E 0) (Hh 0)=some (E 0,Hh 0)
    rw [hE,hH]
    exact hch j hj
  |succ p=>exact hat p j ds (by simpa using hpj)
theorem zgs {ms:List Nat} {o:Oper} {i:Nat} (h:(mask1 ms o).testBit i=true):∃e∈o.after,Region.binds .any e=true∧(e.on=i∨(ms.getD e.on 0).testBit i=true):=by
 have gen:∀(l:List Edge) (s:Nat),(l.foldl (fun s e=>if Region.binds .any e then s|||2 ^ e.on|||ms.getD e.on 0 else s) s).testBit i=true→
   s.testBit i=true∨∃e∈l,Region.binds .any e=true∧(e.on=i∨(ms.getD e.on 0).testBit i=true):=by
  intro l
  induction l with
  |nil=>intro s h;exact .inl h
  |cons e l ih=>
   intro s h
   simp only [List.foldl_cons] at h
   rcases ih _ h with h|⟨e',he',hb⟩
   ·split at h
    ·rename_i hbind
     simp only [Nat.testBit_or,Bool.or_eq_true,Nat.testBit_two_pow] at h
     rcases h with (h|h)|h
     ·exact .inl h
     ·exact .inr ⟨e,by simp,hbind,.inl (by simpa using h)⟩
     ·exact .inr ⟨e,by simp,hbind,.inr h⟩
    ·exact .inl h
   ·exact .inr ⟨e',by simp [he'],hb⟩
 rcases gen o.after.toList 0 h with h|⟨e,he,hb⟩
 ·simp at h
 ·exact ⟨e,by simpa using he,hb⟩
theorem zde (q q':Nat→Bool) (j:Nat):∀(π:List Nat),π.Nodup→j∈π→(∀i∈π,q' i=(q i||i==j))→(∀i∈π,q i=true→π.idxOf i< π.idxOf j)→(π.filter q').getLast? =some j
 | [],_,hj,_,_=>by simp at hj
 |a::π,hn,hj,hq,hlt=>by
  obtain ⟨hna,hn'⟩:=List.nodup_cons.1 hn
  by_cases haj:a=j
  ·subst haj
   have hz:∀i∈π,q' i=false:=by
    intro i hi
    rw [hq i (by simp [hi])]
    have hia:i≠a:=fun e=>hna (e ▸ hi)
    have:q i=false:=by
     cases hqi:q i with
     |false=>rfl
     |true=>have:=hlt i (by simp [hi]) hqi;simp at this
    simp [this,hia]
   have hqa:q' a=true:=by rw [hq a (by simp)];simp
   have:π.filter q'= []:=by rw [List.filter_eq_nil_iff];intro i hi;simp [hz i hi]
   simp [List.filter_cons,hqa,this]
  ·have hj':j∈π:=by rcases List.mem_cons.1 hj with h|h;exact absurd h.symm haj;exact h
   have ih:=zde q q' j π hn' hj' (fun i hi=>hq i (by simp [hi])) (fun i hi hqi=>by
    have:=hlt i (by simp [hi]) hqi
    have hia:a≠i:=fun e=>hna (e ▸ hi)
    simp only [List.idxOf_cons,beq_iff_eq] at this
    have h1:(a==i)=false:=by simpa using hia
    have h2:(a==j)=false:=by simpa using haj
    simp only [h1,h2,cond_false] at this
    omega)
   rw [List.filter_cons]
   split
   ·rw [List.getLast?_cons,ih];rfl
   ·exact ih
end
section
variable {S:Sys} {call:zat} {ks:List zac} {ops:List Oper} {ms:List Nat} {pl:List (Nat×List Nat)} {e0 ef:Env} {H0 Hf:Heap} {E:Nat→Env} {Hh:Nat→Heap}
def zaB (pl:List (Nat×List Nat)):List Nat:=pl.map (·.1)
def zaf (pl:List (Nat×List Nat)) (i:Nat):Nat:=(zaB pl).idxOf i
def zak (ks:List zac) (i:Nat):Bool:=cls (zab ks i).k== .eff
structure zbb (ks:List zac) (ops:List Oper) (ms:List Nat) (pl:List (Nat×List Nat)):Prop where
 len:ops.length=ks.length
 plen:(zaB pl).length=ks.length
 mem:∀i,i< ks.length→i∈zaB pl
 nodup:(zaB pl).Nodup
 low:∀i∈zaB pl,i< ks.length
 mask:∀(j:Nat) o,j< ks.length→ops[j]? =some o→ms.getD j 0=mask1 ms o
 edge:∀(j:Nat) o,j< ks.length→ops[j]? =some o→∀e∈o.after,Region.binds .any e=true→e.on< j∧zaf pl e.on< zaf pl j
 slots:∀i j d,i< ks.length→j< ks.length→i≠j→(zab ks i).dst=some d→d∈(zab ks j).names→bef ms i j=true∨bef ms j i=true
 effs:∀i j,i< ks.length→j< ks.length→i≠j→zak ks i=true→zak ks j=true→(bef ms i j=true∨bef ms j i=true)∨(zbl (zab ks i)=true∧zbl (zab ks j)=true)∨
  (zbl (zab ks i)=true∧zaf pl j< zaf pl i)∨(zbl (zab ks j)=true∧zaf pl i< zaf pl j)
 early:∀j x,j< ks.length→x< ks.length→cls (zab ks j).k= .read→zak ks x=true→zaf pl x< zaf pl j→bef ms x j=true
 late:∀j x,j< ks.length→x< ks.length→cls (zab ks j).k= .read→zak ks x=true→¬zaf pl x< zaf pl j→bef ms j x=false→
  j∈((pl.map (·.2)).getD (zaf pl x) [])∧(∃d,(zab ks j).dst=some d∧d∉(zab ks j).reads)∧∀r d,r< ks.length→zaf pl j< r→r≤zaf pl x→(zab ks ((zaB pl).getD r 0)).dst=some d→d∉(zab ks j).names
 wait:∀u j w,u< ks.length→j< ks.length→w< ks.length→zbl (zab ks u)=true→u≠j→bef ms u j=true→zak ks w=true→zaf pl w< zaf pl u→bef ms w u=true∨bef ms w j=true
 looks:∀u j o d,u< ks.length→j< ks.length→zbl (zab ks u)=true→u≠j→ops[j]? =some o→(zab ks u).dst=some d→d∈o.looksAt ops.toArray→bef ms u j=true
 nosel:∀o∈ops,zeo o=true
 opnw:∀(u:Nat) o,u< ks.length→zbl (zab ks u)=true→ops[u]? =some o→zhD o=true
theorem zhE (h:zdd ks ops ms pl=true):zbb ks ops ms pl:=by
 unfold zdd at h
 simp only [Bool.and_eq_true,decide_eq_true_eq,List.all_eq_true,List.mem_range] at h
 obtain ⟨⟨⟨⟨⟨⟨⟨⟨⟨⟨⟨h1,h2⟩,h3⟩,h4⟩,h4b⟩,h5⟩,h6⟩,h7⟩,h8⟩,h9⟩,h10⟩,h11⟩:=h
 refine ⟨h1,h2,fun i hi=>by simpa [zaB] using h3 i hi,h4,fun i hi=>h4b i hi,?_,?_,?_,?_,?_,?_,?_,?_,h10,?_⟩
 ·intro j o hj ho
  have:=h5 j hj
  rw [ho] at this
  simp only [Bool.and_eq_true,decide_eq_true_eq] at this
  exact this.1
 ·intro j o hj ho e he hb
  have:=h5 j hj
  rw [ho] at this
  simp only [Bool.and_eq_true,decide_eq_true_eq] at this
  have:=Array.all_eq_true_iff_forall_mem.1 this.2 e he
  simpa [hb,zaf,zaB] using this
 ·intro i j d hi hj hne hd hm
  have:=h6 i hi
  rw [hd] at this
  simp only [List.all_eq_true,List.mem_range] at this
  have:=this j hj
  simp only [Bool.or_eq_true,beq_iff_eq,Bool.not_eq_true',hne,false_or] at this
  rcases this with (h|h)|h
  ·rw [List.contains_eq_mem] at h;simp [hm] at h
  ·exact .inl h
  ·exact .inr h
 ·intro i j hi hj hne he1 he2
  have:=h7 i hi
  simp only [zak,beq_iff_eq] at he1 he2
  simp only [he1,bne_self_eq_false,Bool.false_or,List.all_eq_true,List.mem_range] at this
  have:=this j hj
  simp only [Bool.or_eq_true,beq_iff_eq,hne,false_or,he2,bne_self_eq_false,Bool.false_eq_true,Bool.and_eq_true,decide_eq_true_eq] at this
  rcases this with (((h|h)|h)|h)|h
  ·exact .inl (.inl h)
  ·exact .inl (.inr h)
  ·exact .inr (.inl h)
  ·exact .inr (.inr (.inl h))
  ·exact .inr (.inr (.inr h))
 ·intro j x hj hx hr he hlt
  have:=h8 j hj
  simp only [zak,beq_iff_eq] at he
  simp only [hr,bne_self_eq_false,Bool.false_or,List.all_eq_true,List.mem_range] at this
  have:=this x hx
  simp only [he,bne_self_eq_false,Bool.false_or] at this
  have hlt':List.idxOf x (List.map (fun x=>x.fst) pl)< List.idxOf j (List.map (fun x=>x.fst) pl):=hlt
  rw [if_pos hlt'] at this
  exact this
 ·intro j x hj hx hr he hlt hb
  have:=h8 j hj
  simp only [zak,beq_iff_eq] at he
  simp only [hr,bne_self_eq_false,Bool.false_or,List.all_eq_true,List.mem_range] at this
  have:=this x hx
  simp only [he,bne_self_eq_false,Bool.false_or] at this
  have hlt':¬List.idxOf x (List.map (fun x=>x.fst) pl)< List.idxOf j (List.map (fun x=>x.fst) pl):=hlt
  rw [if_neg hlt'] at this
  simp only [hb,Bool.false_or,Bool.and_eq_true,List.contains_eq_mem,decide_eq_true_eq,List.all_eq_true,List.mem_range] at this
  obtain ⟨⟨t1,t2⟩,t3⟩:=this
  have t2':∃d,(zab ks j).dst=some d∧d∉(zab ks j).reads:=by
   split at t2
   ·rename_i d hd;exact ⟨d,hd,by simpa using t2⟩
   ·cases t2
  refine ⟨t1,t2',fun r d hr1 hr2 hr3 hd=>?_⟩
  have:=t3 r hr1
  have hd':(zab ks ((List.map (fun x=>x.fst) pl).getD r 0)).dst=some d:=hd
  rw [hd'] at this
  have e1:decide (List.idxOf j (List.map (fun x=>x.fst) pl)< r)=true:=by simpa [zaf,zaB] using hr2
  have e2:decide (r≤List.idxOf x (List.map (fun x=>x.fst) pl))=true:=by simpa [zaf,zaB] using hr3
  rw [e1,e2] at this
  simpa using this
 ·intro u j w hu hj hw hn hne hb he hlt
  have:=h9 u hu
  simp only [hn,Bool.not_true,Bool.false_or,List.all_eq_true,List.mem_range] at this
  have:=this j hj
  simp only [Bool.or_eq_true,beq_iff_eq,hne,false_or,Bool.and_eq_true,hb,Bool.not_true,Bool.false_eq_true,List.all_eq_true,List.mem_range] at this
  have:=this.1 w hw
  simp only [zak,beq_iff_eq] at he
  have hlt':decide (List.idxOf w (List.map (fun x=>x.fst) pl)< List.idxOf u (List.map (fun x=>x.fst) pl))=true:=by simpa [zaf,zaB] using hlt
  simp only [he,bne_self_eq_false,Bool.or_eq_true,hlt',Bool.not_true,Bool.false_eq_true,false_or] at this
  exact this
 ·intro u j o d hu hj hn hne ho hd hm
  have:=h9 u hu
  simp only [hn,Bool.not_true,Bool.false_or,List.all_eq_true,List.mem_range] at this
  have:=this j hj
  simp only [Bool.or_eq_true,beq_iff_eq,hne,false_or,Bool.and_eq_true,ho,hd,Bool.not_eq_true',List.contains_eq_mem,decide_eq_false_iff_not] at this
  rcases this.2 with h|h
  ·exact absurd hm h
  ·exact h
 ·intro u o hu hn ho
  have:=h11 u hu
  simpa only [hn,Bool.not_true,Bool.false_or,ho] using this
def Closed (ops:List Oper) (T:Nat→Bool):Prop:=∀(j:Nat) o,T j=true→ops[j]? =some o→∀e∈o.after,Region.binds .any e=true→T e.on=true
def Ready (ops:List Oper) (T:Nat→Bool) (j:Nat):Prop:=∀o,ops[j]? =some o→∀e∈o.after,Region.binds .any e=true→T e.on=true
theorem zaM (hp:zbb ks ops ms pl) {T:Nat→Bool} (hc:Closed ops T):∀(j:Nat),j< ks.length→Ready ops T j→∀i,bef ms i j=true→T i=true:=by
 intro j
 induction j using Nat.strongRecOn with
 |_ j ih=>
  intro hj hr i hb
  obtain ⟨o,ho⟩:∃o,ops[j]? =some o:=⟨ops[j]'(by rw [hp.len];exact hj),List.getElem?_eq_getElem _⟩
  unfold bef at hb
  rw [hp.mask j o hj ho] at hb
  obtain ⟨e,he,hbind,h⟩:=zgs hb
  have hT:=hr o ho e he hbind
  rcases h with rfl|h
  ·exact hT
  ·have hlt:=(hp.edge j o hj ho e he hbind).1
   exact ih e.on hlt (by omega) (fun o' ho' e' he' hb'=>hc e.on o' hT ho' e' he' hb') i h
def wr1 (ks:List zac) (t i:Nat):Bool:=(zab ks i).dst==some t
def valOf (S:Sys) (call:zat) (ks:List zac) (pl:List (Nat×List Nat)) (E:Nat→Env) (Hh:Nat→Heap) (i:Nat):Value:=
 if wants (E (zaf pl i)) (zab ks i).g then ((zaz S call (zab ks i).k (E (zaf pl i)) (Hh (zaf pl i))).map (·.1)).getD undef else undef
def WT (S:Sys) (call:zat) (ks:List zac) (pl:List (Nat×List Nat)) (E:Nat→Env) (Hh:Nat→Heap) (T:Nat→Bool) (t:Nat):Value:=
 match ((zaB pl).filter fun i=>T i && wr1 ks t i).getLast? with
 |some i=>valOf S call ks pl E Hh i
 |none=>(E 0).get t
def HT (ks:List zac) (pl:List (Nat×List Nat)) (Hh:Nat→Heap) (T:Nat→Bool):Heap:=
 match ((zaB pl).filter fun i=>T i && zak ks i).getLast? with
 |some x=>Hh (zaf pl x+1)
 |none=>Hh 0
theorem zbr (hp:zbb ks ops ms pl) {i:Nat} (hi:i< ks.length):zaf pl i< ks.length∧∃cs,pl[zaf pl i]? =some (i,cs):=by
 have h1:zaf pl i< (zaB pl).length:=List.idxOf_lt_length_of_mem (hp.mem i hi)
 have h2:(zaB pl)[zaf pl i]? =some i:=by
  rw [List.getElem?_eq_getElem h1];congr 1;exact List.getElem_idxOf h1
 refine ⟨by rw [←hp.plen];exact h1,?_⟩
 simp only [zaB,List.getElem?_map,Option.map_eq_some_iff] at h2
 obtain ⟨⟨a,cs⟩,h2,rfl⟩:=h2
 exact ⟨cs,h2⟩
theorem zgt (hp:zbb ks ops ms pl) {p i:Nat} {cs:List Nat} (h:pl[p]? =some (i,cs)):zaf pl i=p:=by
 have h1:(zaB pl)[p]? =some i:=by simp [zaB,h]
 have hlt:=(List.getElem?_eq_some_iff.1 h1).1
 have hm:i∈zaB pl:=List.mem_of_getElem? h1
 have h2:zaf pl i< (zaB pl).length:=List.idxOf_lt_length_of_mem hm
 have h3:(zaB pl)[zaf pl i]? =some i:=by
  rw [List.getElem?_eq_getElem h2];congr 1;exact List.getElem_idxOf h2
 exact (List.getElem?_inj h2 hp.nodup).1 (by rw [h3,h1])
theorem zdS (hp:zbb ks ops ms pl) {i j:Nat} (hi:i< ks.length) (hj:j< ks.length) (h:zaf pl i=zaf pl j):i=j:=by
 obtain ⟨_,c1,h1⟩:=zbr hp hi
 obtain ⟨_,c2,h2⟩:=zbr hp hj
 rw [h] at h1;rw [h1] at h2;cases h2;rfl
theorem zdz (hp:zbb ks ops ms pl) {i:Nat} (hi:i∈zaB pl):i< ks.length:=hp.low i hi
theorem zgu (hp:zbb ks ops ms pl) {T T':Nat→Bool} {j:Nat} (hj:j< ks.length) (hT:∀i,T' i=(T i||i==j))
  (hlt:∀i d,i< ks.length→T i=true→(zab ks j).dst=some d→(zab ks i).dst=some d→zaf pl i< zaf pl j) (t:Nat):
  WT S call ks pl E Hh T' t=if (zab ks j).dst=some t then valOf S call ks pl E Hh j else WT S call ks pl E Hh T t:=by
 unfold WT
 by_cases hd:(zab ks j).dst=some t
 ·rw [if_pos hd]
  have:=zde (fun i=>T i && wr1 ks t i) (fun i=>T' i && wr1 ks t i) j (zaB pl) hp.nodup (hp.mem j hj) (fun i hi=>by
   rw [hT i]
   by_cases hij:i=j
   ·subst hij;simp [wr1,hd]
   ·rw [beq_false_of_ne hij,Bool.or_false,Bool.or_false]) (fun i hi hq=>by
    simp only [Bool.and_eq_true,wr1,beq_iff_eq] at hq
    exact hlt i t (zdz hp hi) hq.1 hd hq.2)
  rw [this]
 ·rw [if_neg hd]
  have:(zaB pl).filter (fun i=>T' i && wr1 ks t i)=(zaB pl).filter fun i=>T i && wr1 ks t i:=by
   refine List.filter_congr fun i hi=>?_
   rw [hT i]
   by_cases hij:i=j
   ·subst hij
    have:wr1 ks t i=false:=by simp [wr1,hd]
    simp [this]
   ·rw [beq_false_of_ne hij,Bool.or_false]
  rw [this]
theorem zgv (hp:zbb ks ops ms pl) {T T':Nat→Bool} {j:Nat} (hj:j< ks.length) (hT:∀i,T' i=(T i||i==j)) (hlt:∀i,i< ks.length→T i=true→zak ks i=true→zak ks j=true→zaf pl i< zaf pl j):
  HT ks pl Hh T'=if zak ks j=true then Hh (zaf pl j+1) else HT ks pl Hh T:=by
 unfold HT
 by_cases he:zak ks j=true
 ·rw [if_pos he]
  have:=zde (fun i=>T i && zak ks i) (fun i=>T' i && zak ks i) j (zaB pl) hp.nodup (hp.mem j hj) (fun i hi=>by
   rw [hT i]
   by_cases hij:i=j
   ·subst hij;simp [he]
   ·rw [beq_false_of_ne hij,Bool.or_false,Bool.or_false]) (fun i hi hq=>by
    simp only [Bool.and_eq_true] at hq
    exact hlt i (zdz hp hi) hq.1 hq.2 he)
  rw [this]
 ·rw [if_neg he]
  have:(zaB pl).filter (fun i=>T' i && zak ks i)=(zaB pl).filter fun i=>T i && zak ks i:=by
   refine List.filter_congr fun i hi=>?_
   rw [hT i]
   by_cases hij:i=j
   ·subst hij
    have:zak ks i=false:=by simpa using he
    simp [this]
   ·rw [beq_false_of_ne hij,Bool.or_false]
  rw [this]
end
def mkv:Option (Nat×Nat)→Nat→Value
 |none,b=> .pointer (some ⟨b,0,none⟩)
 |some (n,c),b=> .slice (some ⟨b,0,none⟩) n c
section
variable {P:Program} {B:Fz} {w0 w:World} {ρ:Rho} {H:Heap}
theorem g1_any {ρ2:Rho} {x y:Value} (h:ground1 x=true) (hv:VRel P ρ x y):VRel P ρ2 x y:=by
 cases hv with
 |bool b=>exact .bool _
 |int k n=>exact .int _ _
 |string s=>exact .string _
 |pnil=>exact .pnil
 |snil=>exact .snil
 |mnil=>exact .mnil
 |nilFunc=>exact .nilFunc
 |nilIface=>exact .nilIface
 |ptr hb=>simp [ground1] at h
 |sl hb hn hc hs=>simp [ground1] at h
 |sl0=>simp [ground1] at h
 |map hb=>simp [ground1] at h
 |func f hs h1 hs2 h2=>simp [ground1] at h
 |iface t h1=>simp [ground1] at h
 |agg hs h1 ho=>simp [ground1] at h
 |tuple hs h1=>simp [ground1] at h
theorem zer {ρ2:Rho} {L:Loc} {c:List Value} {t:TypeId} {rw_:Bool} (hg:∀x∈c,ground1 x=true) (h:zco P ρ w L (.cells c t rw_)):zco P ρ2 w L (.cells c t rw_):=by
 obtain ⟨h1,arr,tw,fr,h2,h3,h4,h5,h6⟩:=h
 refine ⟨h1,arr,tw,fr,h2,h3,h4,fun i x hx=>?_,h6⟩
 obtain ⟨g1,y,g2,g3⟩:=h5 i x hx
 exact ⟨g1,y,g2,g1_any (hg x (List.mem_of_getElem? hx)) g3⟩
theorem zfU {z:List Value} {n:Nat} {x:Value} (hx:x∈zeros z n):x∈z:=by
 simp only [zeros,List.mem_flatten,List.mem_replicate] at hx
 obtain ⟨l,⟨_,rfl⟩,hx⟩:=hx
 exact hx
theorem zes {c:List Value} (t t2:TypeId) (w:World) (hg:c.all ground1=true):∃L:Loc,L.block=w.heap.size∧L.off=0∧L.elem=t∧L.size=c.length∧zco P [] (w.alloc (.cells c.toArray t2)) L (.cells c t true):=by
 obtain ⟨g1,g2⟩:=zaW (P:=P) (ρ:= []) hg
 obtain ⟨L,hH,hb,ho,he,hs⟩:=zbt (t:=t) (t2:=t2) (HRel.nil0 (P:=P) w) g1 g2
 refine ⟨L,hb,ho,he,hs,?_⟩
 have:=hH.blk 0 L (by simp)
 exact zer (fun x hx=>List.all_eq_true.1 hg x hx) this
structure Made (P:Program) (k:KOp) (e:Env) (H H1:Heap) (v:Value) (a:Act) (o:Oper) (w:World):Prop where
 ex:∃m x L v' obj,v=mkv m H.next∧H1=H.push x∧(∀H2:Heap,kop k e H2=some (mkv m H2.next,H2.push x))∧(execOp a.eval o).run P w= .ok (.value v') (w.alloc obj)∧L.block=w.heap.size∧zco P [] (w.alloc obj) L x∧
  ∀(ρ2:Rho) (b:Nat),ρ2[b]? =some L→VRel P ρ2 (mkv m b) v'
def nwK:KOp→Bool
 | .alloc _ _=>true
 | .mks _ _ _ _ _=>true
 |_=>false
theorem zet {s:zac} (h:zbl s=true):∃d k,s= .op (some d) none k∧nwK k=true:=by
 unfold zbl at h
 split at h
 ·exact ⟨_,_,rfl,rfl⟩
 ·exact ⟨_,_,rfl,rfl⟩
 ·cases h
theorem zhF {nt:Nat} {o:Oper} {k:KOp} {e:Env} {a:Act} {v:Value} {H1:Heap} (hn:zhD o=true) (he:zaG P ρ e a) (hc:cOp P nt o.op=some k) (hk:kop k e H=some (v,H1)) (w:World):Made P k e H H1 v a o w:=by
 obtain ⟨dst,op,type,pos,after,guard⟩:=o
 have hc0:=zcu hc
 clear hc
 rcases hc0 with hc|rfl
 case inr=>simp [kop] at hk
 simp only at hc
 unfold zhD at hn
 cases op<;>simp only [Bool.false_eq_true] at hn
 case alloc t=>
  simp only [zaF,Option.map_eq_some_iff] at hc
  obtain ⟨z,hz,rfl⟩:=hc
  obtain ⟨i,zz,hi,hzz,rfl,hsz,hgr⟩:=zb2 hz
  simp only [kop,Option.some.injEq,Prod.mk.injEq] at hk
  obtain ⟨rfl,rfl⟩:=hk
  obtain ⟨L,hb,ho,_,_,hB⟩:=zes (P:=P) (zfn P t) t w hgr
  refine ⟨none,.cells zz.cells.toList (zfn P t) true,L,.pointer (some ⟨w.heap.size,0,none⟩),.cells zz.cells.toList.toArray t,rfl,rfl,fun H2=>rfl,?_,hb,hB,fun ρ2 b h2=>?_⟩
  ·simp [execOp,Instr.alloc,zeroValue,typeInfo,hi,hzz,newVar,newRow,newObj,Sem.run]
  ·have:=VRel.ptr (P:=P) (off:=0) h2
   rw [hb,ho] at this;exact this
 case makeSlice t l c=>
  simp only [zaF,zi1,Option.bind_eq_some_iff] at hc
  obtain ⟨d,hd,hc⟩:=hc
  cases d with
  |slice el=>
   simp only [Option.bind_eq_some_iff,Option.map_eq_some_iff] at hc
   obtain ⟨i,hi,z,hz,l',hl',c',hc',rfl⟩:=hc
   obtain ⟨i2,zz,hi2,hzz,rfl,hzs,hgr⟩:=zb2 hz
   rw [hi] at hi2;cases hi2
   simp only [kop] at hk
   have rl:=zag he hl'
   have rc:=zag he hc'
   have hk0:=hk
   unfold zcS at hk
   split at hk
   ·rename_i kl li kc ci e1 e2
    rw [e1] at rl;rw [e2] at rc
    have rl':=rl.int_inv
    have rc':=rc.int_inv
    split at hk
    ·rename_i hcond
     obtain ⟨h0,hlc,h63,hbb⟩:=hcond
     simp only [Option.some.injEq,Prod.mk.injEq] at hk
     obtain ⟨rfl,rfl⟩:=hk
     have hr:=run_make (P:=P) w t el i zz hd hi hzz kl kc li ci h0 hlc hbb h63
     have hme:(madeCells zz.cells (ci.toNat*i.size)).toList=zeros zz.cells.toList ci.toNat:=by rw [←hzs];exact zbL _ _
     have hgz:(zeros zz.cells.toList ci.toNat).all ground1=true:=List.all_eq_true.2 fun x hx=>List.all_eq_true.1 hgr x (zfU hx)
     obtain ⟨L,hb,ho,hel,hs,hB⟩:=zes (P:=P) el el w hgz
     have hL:L.off+0+ci.toNat*P.cellsOf L.elem≤L.size:=by rw [hs,hel,ho,zeros_length];simp [Program.cellsOf,hi,hzs]
     have hobj:(zeros zz.cells.toList ci.toNat).toArray=madeCells zz.cells (ci.toNat*i.size):=by rw [←hme,Array.toArray_toList]
     refine ⟨some (li.toNat,ci.toNat),.cells (zeros zz.cells.toList ci.toNat) el true,L,.slice (some ⟨w.heap.size,0,none⟩) li.toNat ci.toNat,.cells (madeCells zz.cells (ci.toNat*i.size)) el,rfl,rfl,fun H2=>?_,?_,hb,by rw [hobj] at hB;exact hB,fun ρ2 b h2=>?_⟩
     ·simp only [kop,e1,e2,zcS,if_pos (And.intro h0 (And.intro hlc (And.intro h63 hbb))),mkv]
     ·simp only [execOp,rl',rc',Sem.run_bind,hr]
      rfl
     ·have:=VRel.sl (P:=P) (off:=0) (n:=li.toNat) (c:=ci.toNat) (c':=ci.toNat) h2 (by omega) (.inl rfl) hL
      rw [hb,ho] at this;exact this
    ·cases hk
   ·cases hk
  |_=>cases hc
end
end Go.Proofs.YtnbjcbhlbkmhoaaGreat.K
