/- The abstract interpreter K: a small language of operations whose types are resolved, an abstract heap of blocks, an evaluator, and the words Wc and Wf by which its runs are told step by step. -/
import Derived.Below
import Derived.Orders
import Derived.Laws.AppendOwn
import Derived.Laws.Slices
import Derived.Laws.Strings
import Derived.Laws.Tables
import Derived.Laws.MakeOwn
import Derived.Laws.BytesString
import Derived.Laws.StructEq
import Derived.Laws.BytesArg
namespace Go.Proofs.YtjgpbhodbgjggaaGreat.K
open Go

/-- a block of the abstract heap -/
inductive Blk where
  | dead
  | cells (c : List Value) (t : TypeId) (rw : Bool)
  | map (es : List MapEntry) (clock : Nat)
  /-- an object of the model's, as it stands (a loop's iterator) -/
  | iter (o : Obj)

/-- a text by its bytes -/
def bs (l : List Nat) : ByteArray := ⟨(l.map UInt8.ofNat).toArray⟩

abbrev Heap := List Blk
def Heap.get : Heap → Nat → Blk
  | [], _ => .dead
  | x :: _, 0 => x
  | _ :: H, n + 1 => Heap.get H n
def Heap.put : Heap → Nat → Blk → Heap
  | [], _, _ => []
  | _ :: H, 0, b => b :: H
  | x :: H, n + 1, b => x :: Heap.put H n b
def Heap.next (H : Heap) : Nat := H.length
def Heap.push (H : Heap) (b : Blk) : Heap := H ++ [b]

abbrev Env := List Value
def Env.get : Env → Nat → Value
  | [], _ => undef
  | x :: _, 0 => x
  | _ :: e, n + 1 => Env.get e n
def Env.set : Env → Nat → Value → Env
  | [], 0, v => [v]
  | [], n + 1, v => undef :: Env.set [] n v
  | _ :: e, 0, v => v :: e
  | x :: e, n + 1, v => x :: Env.set e n v

inductive Opd where
  | t (n : Nat)
  | c (v : Value)

def Env.ev (e : Env) : Opd → Value
  | .t n => e.get n
  | .c v => v

inductive EqS where
  | int | str | bool
  deriving DecidableEq
inductive EqK where
  | s (k : EqS)
  | ptr | slice | map | func | ifc
  | agg (ks : List EqS)
  deriving DecidableEq

inductive KOp where
  | mv (x : Opd)
  | pick (c a b : Opd)
  | alloc (t : TypeId) (z : List Value)
  | box (t : TypeId) (x : Opd)
  | build (z : List Value) (ps : List (Nat × Nat × Opd))
  | bsl (t : TypeId) (len : Nat) (z : List Value) (ps : List (Nat × Nat × Opd))
  | ld (a : Opd)
  | ldn (n : Nat) (a : Opd)
  | st (a v : Opd)
  | stn (n : Nat) (a v : Opd)
  | nck (x : Opd)
  | bin (o : BinOp) (x y : Opd)
  | eqv (k : EqK) (neg : Bool) (x y : Opd)
  | un (o : UnOp) (x : Opd)
  | cvt (k : IntKind) (x : Opd)
  | s2b (t : TypeId) (x : Opd)
  | b2s (t : TypeId) (x : Opd)
  | mki (t : TypeId) (x : Opd)
  | mkf (f : Fn) (first cap : List Opd)
  | mkm
  | mks (t : TypeId) (z : List Value) (bytes : Nat) (l c : Opd)
  | slS (x : Opd) (lo hi : Option Opd)
  | slc (t : TypeId) (esz : Nat) (x : Opd) (lo hi : Option Opd)
  | sla (t : TypeId) (len esz : Nat) (x : Opd) (lo hi : Option Opd)
  | fad (off : Nat) (x : Opd)
  | fld (off : Nat) (x : Opd)
  | fldn (off n : Nat) (x : Opd)
  | iad (esz : Nat) (x i : Opd)
  | iada (len esz : Nat) (x i : Opd)
  | idS (x i : Opd)
  | ida (len : Nat) (x i : Opd)
  | idan (len esz : Nat) (x i : Opd)
  | xt (x : Opd) (i : Nat)
  | lenS (x : Opd)
  | lenL (x : Opd)
  | lenM (x : Opd)
  | mx (x : Opd) (xs : List Opd)
  | mn (x : Opd) (xs : List Opd)
  | app (t : TypeId) (esz bytes : Nat) (x y : Opd)
  | appS (t : TypeId) (x y : Opd)
  | cpy (t : TypeId) (esz : Nat) (x y : Opd)
  | del (kk : EqK) (m k : Opd)
  | lkp (kk : EqK) (z : Value) (ok : Bool) (m k : Opd)
  | mup (kk : EqK) (m k v : Opd)
  | men (kk : EqK) (z : Value) (m k : Opd)
  | mes (m s v : Opd)
  | tas (t : TypeId) (z : Value) (ok : Bool) (x : Opd)
  | call (f : FuncId) (args : List Opd)
  | callp (f : FuncId) (args : List Opd)
  | callv (f : Opd) (args : List Opd)
  | inv (r : Opd) (name : String) (args : List Opd)
  | nev

/-- a step of a region: an operation (its slot, its guard), or a look whether it would still give what it gave -/
inductive KStep where
  | op (dst : Option Nat) (g : Option (Nat × Bool)) (o : KOp)
  | chk (dst : Nat) (g : Option (Nat × Bool)) (o : KOp)

inductive KCode where
  | skip
  | reg (l : List KStep)
  | seq (a b : KCode)
  | cond (c : Opd) (a b : KCode)
  | block (id : Nat) (c : KCode)
  | loop (c : KCode)
  | exit (id : Nat)
  | ret
  | nev
  /-- to each element of the map in slot m an operation is done, in whatever order, and the map is the answer (slot r) -/
  | mdec (m r : Nat) (kk : EqK) (o : BinOp) (c : Value)
  /-- a range over the function in slot g, which goes through a slice from its end: its place in p1, its element in p2 -/
  | back (g p1 p2 : Nat) (asg body : KCode)

inductive KRes where
  | t (n : Nat)
  | c1 (a : Nat)
  | cn (a n : Nat)

structure KFunc where
  nt : Nat
  body : KCode
  res : List KRes

/- THE OPERATIONS -/
def capx : Nat := 2 ^ 70

def cellsL : Value → List Value
  | .agg cs => cs.toList
  | v => [v]
def isTup : Value → Bool
  | .tuple _ => true
  | _ => false

def oneC : Value → Bool
  | .agg _ | .tuple _ => false
  | _ => true

def rd (c : List Value) (off n : Nat) : Option (List Value) := if off + n ≤ c.length then some ((c.drop off).take n) else none
def wr (c : List Value) (off : Nat) (vs : List Value) : List Value := c.take off ++ vs ++ c.drop (off + vs.length)
def zeros (z : List Value) (n : Nat) : List Value := (List.replicate n z).flatten

def kLd (H : Heap) : Value → Option Value
  | .pointer (some a) => match H.get a.block with
    | .cells c _ _ => c[a.off]?
    | _ => none
  | _ => none
def kLdn (H : Heap) (n : Nat) : Value → Option Value
  | .pointer (some a) => match H.get a.block with
    | .cells c _ _ => (rd c a.off n).map fun l => .agg l.toArray
    | _ => none
  | _ => none
def kSt (H : Heap) : Value → Value → Option Heap
  | .pointer (some a), v => match H.get a.block with
    | .cells c t true => if a.off < c.length && oneC v then some (H.put a.block (.cells (c.set a.off v) t true)) else none
    | _ => none
  | _, _ => none
def kStn (H : Heap) (n : Nat) : Value → Value → Option Heap
  | .pointer (some a), .agg vs => match H.get a.block with
    | .cells c t true => if a.off + n ≤ c.length && vs.size == n then some (H.put a.block (.cells (wr c a.off vs.toList) t true)) else none
    | _ => none
  | _, _ => none

def kFill : List Value → List (Nat × Nat × Value) → Option (List Value)
  | z, [] => some z
  | z, (off, n, v) :: ps => if !isTup v && (cellsL v).length == n && off + n ≤ z.length then kFill (wr z off (cellsL v)) ps else none

def evPs (e : Env) (ps : List (Nat × Nat × Opd)) : List (Nat × Nat × Value) := ps.map fun p => (p.1, p.2.1, e.ev p.2.2)

def kInt (o : BinOp) (k : IntKind) (a b : Int) : Option Value :=
  match o with
  | .add => some (.int k (k.wrap (a + b)))
  | .sub => some (.int k (k.wrap (a - b)))
  | .mul => some (.int k (k.wrap (a * b)))
  | .quo => if b = 0 then none else some (.int k (k.wrap (a.tdiv b)))
  | .rem => if b = 0 then none else some (.int k (a.tmod b))
  | .and => some (.int k (k.wrap (BitVec.ofInt k.bits a &&& BitVec.ofInt k.bits b).toNat))
  | .or => some (.int k (k.wrap (BitVec.ofInt k.bits a ||| BitVec.ofInt k.bits b).toNat))
  | .xor => some (.int k (k.wrap (BitVec.ofInt k.bits a ^^^ BitVec.ofInt k.bits b).toNat))
  | .andNot => some (.int k (k.wrap (BitVec.ofInt k.bits a &&& ~~~(BitVec.ofInt k.bits b)).toNat))
  | .eql => some (.bool (a == b))
  | .neq => some (.bool (a != b))
  | .lss => some (.bool (a < b))
  | .leq => some (.bool (a ≤ b))
  | .gtr => some (.bool (a > b))
  | .geq => some (.bool (a ≥ b))
  | .shl | .shr => none

def kStr (o : BinOp) (a b : ByteArray) : Option Value :=
  match o with
  | .add => if ((a.size + b.size : Nat) : Int) > IntKind.i64.max then none else some (.string (a ++ b))
  | .eql => some (.bool (a.toList == b.toList))
  | .neq => some (.bool !(a.toList == b.toList))
  | .lss => some (.bool (Op.bytesLess a.toList b.toList))
  | .leq => some (.bool (Op.bytesLess a.toList b.toList || a.toList == b.toList))
  | .gtr => some (.bool !(Op.bytesLess a.toList b.toList || a.toList == b.toList))
  | .geq => some (.bool !(Op.bytesLess a.toList b.toList))
  | _ => none

def kBin (o : BinOp) : Value → Value → Option Value
  | .int k a, .int k' b =>
    match o with
    | .shl => if b < 0 then none else some (.int k (k.wrap (a * 2 ^ (min b.toNat k.bits))))
    | .shr => if b < 0 then none else some (.int k (a.fdiv (2 ^ (min b.toNat k.bits))))
    | o => if k = k' then kInt o k a b else none
  | .string a, .string b => kStr o a b
  | _, _ => none

/-- equality of scalars -/
def kEq1 : EqS → Value → Value → Option Bool
  | .bool, .bool a, .bool b => some (a == b)
  | .int, .int k a, .int k' b => if k = k' then some (a == b) else none
  | .str, .string a, .string b => some (a.toList == b.toList)
  | _, _, _ => none
def kEqL : List EqS → List Value → List Value → Option Bool
  | [], [], [] => some true
  | k :: ks, x :: xs, y :: ys => (kEq1 k x y).bind fun b => if b then kEqL ks xs ys else if xs.length = ks.length ∧ ys.length = ks.length then some false else none
  | _, _, _ => none
def kEq : EqK → Value → Value → Option Bool
  | .s k, x, y => kEq1 k x y
  | .ptr, .pointer none, .pointer b => some b.isNone
  | .ptr, .pointer (some _), .pointer none => some false
  | .slice, .slice none _ _, .slice b _ _ => some b.isNone
  | .slice, .slice (some _) _ _, .slice none _ _ => some false
  | .map, .map none, .map b => some b.isNone
  | .map, .map (some _), .map none => some false
  | .func, .nilFunc, .nilFunc => some true
  | .func, .func _ _ _, .nilFunc => some false
  | .ifc, .nilIface, .nilIface => some true
  | .ifc, .iface _ _, .nilIface => some false
  | .agg ks, .agg xs, .agg ys => kEqL ks xs.toList ys.toList
  | _, _, _ => none

def kUn (o : UnOp) : Value → Option Value
  | .int k n => match o with
    | .neg => some (.int k (k.wrap (0 - n)))
    | .xor => some (.int k (k.wrap (BitVec.ofInt k.bits (if k.signed then -1 else k.max) ^^^ BitVec.ofInt k.bits n).toNat))
    | _ => none
  | .bool b => match o with
    | .not => some (.bool !b)
    | _ => none
  | _ => none

def kBytes : List Value → Option (List UInt8)
  | [] => some []
  | .int .u8 n :: l => (kBytes l).map (UInt8.ofNat n.toNat :: ·)
  | _ :: _ => none

def kSlS (s : ByteArray) (l h : Int) : Option Value :=
  if 0 ≤ l ∧ l ≤ h ∧ h ≤ s.size then some (.string (s.extract l.toNat h.toNat)) else none

def evI (e : Env) (d : Int) : Option Opd → Option Int
  | none => some d
  | some x => match e.ev x with
    | .int _ n => some n
    | _ => none

def addOff (a : Addr) (n : Nat) : Addr := ⟨a.block, a.off + n, none⟩

def kSlc (H : Heap) (t : TypeId) (esz : Nat) (v : Value) (l : Int) (h : Option Int) : Option Value :=
  match v with
  | .slice none n c => if c = capx then none else
      if 0 ≤ l ∧ l ≤ h.getD n ∧ h.getD n ≤ c then some (.slice none (h.getD n - l).toNat (c - l.toNat)) else none
  | .slice (some a) n c => match H.get a.block with
    | .cells _ t' _ =>
      if t' = t then
        if c = capx then
          if 0 ≤ l ∧ l ≤ h.getD n ∧ h.getD n ≤ n then some (.slice (some (addOff a (l.toNat * esz))) (h.getD n - l).toNat capx) else none
        else
          if 0 ≤ l ∧ l ≤ h.getD n ∧ h.getD n ≤ c then
            some (.slice (some (if l.toNat = c then a else addOff a (l.toNat * esz))) (h.getD n - l).toNat (c - l.toNat)) else none
      else none
    | _ => none
  | _ => none

def kMks (H : Heap) (t : TypeId) (z : List Value) (bytes : Nat) : Value → Value → Option (Value × Heap)
  | .int _ l, .int _ c =>
    if 0 ≤ l ∧ l ≤ c ∧ c ≤ 9223372036854775807 ∧ (bytes : Int) * c ≤ 281474976710656 then some (.slice (some ⟨H.next, 0, none⟩) l.toNat c.toNat, H.push (.cells (zeros z c.toNat) t true)) else none
  | _, _ => none

/-- a slice of a variable that is an array -/
def kSla (H : Heap) (t : TypeId) (len esz : Nat) (a : Addr) (l h : Int) : Option Value :=
  match H.get a.block with
  | .cells cs t' _ => if t' = t ∧ a.off + len * esz ≤ cs.length ∧ 0 ≤ l ∧ l ≤ h ∧ h ≤ len then some (.slice (some (if l.toNat = len then a else addOff a (l.toNat * esz))) (h - l).toNat (len - l.toNat)) else none
  | _ => none
def roomMax : Nat := 140737488355328

/-- the cells of the first n elements of a slice -/
def kRow (H : Heap) (t : TypeId) (esz n : Nat) : Option Addr → Option (List Value)
  | none => if n = 0 then some [] else none
  | some a => match H.get a.block with
    | .cells c t' _ => if t' = t then rd c a.off (n * esz) else none
    | _ => none

/-- append of cells that are known: m elements -/
def kApp (H : Heap) (t : TypeId) (esz bytes : Nat) (v : Value) (m : Nat) (news : List Value) : Option (Value × Heap) :=
  match v with
  | .slice none n c =>
    if n = 0 ∧ c = 0 ∧ m * bytes ≤ roomMax ∧ m ≤ roomMax then
      if m = 0 then some (v, H) else some (.slice (some ⟨H.next, 0, none⟩) m capx, H.push (.cells news t true))
    else none
  | .slice (some a) n c => match H.get a.block with
    | .cells cs t' rw =>
      if t' = t ∧ (n + m) * bytes ≤ roomMax ∧ n + m ≤ roomMax then
        if c = capx then
          if m = 0 then some (v, H)
          else if rw then (rd cs a.off (n * esz)).map fun olds => (.slice (some ⟨H.next, 0, none⟩) (n + m) capx, (H.put a.block .dead).push (.cells (olds ++ news) t true))
          else none
        else if n + m ≤ c then
          if m = 0 then some (v, H)
          else if rw && decide (a.off + (n + m) * esz ≤ cs.length) then some (.slice (some a) (n + m) c, H.put a.block (.cells (wr cs (a.off + n * esz) news) t true)) else none
        else (rd cs a.off (n * esz)).map fun olds => (.slice (some ⟨H.next, 0, none⟩) (n + m) capx, H.push (.cells (olds ++ news) t true))
      else none
    | _ => none
  | _ => none

def byteVals (s : ByteArray) : List Value := s.data.toList.map fun b => .int .u8 b.toNat

def kKey1 : EqS → Value → Bool
  | .int, .int _ _ | .str, .string _ | .bool, .bool _ => true
  | _, _ => false
def kKeyL : List EqS → List Value → Bool
  | [], [] => true
  | k :: ks, x :: xs => kKey1 k x && kKeyL ks xs
  | _, _ => false
/-- a key that may be: a scalar, or some scalars -/
def kKey : EqK → Value → Bool
  | .s k, x => kKey1 k x
  | .agg ks, .agg xs => kKeyL ks xs.toList
  | _, _ => false
def kFind (kk : EqK) (k : Value) : List MapEntry → Nat → Option (Option (Nat × MapEntry))
  | [], _ => some none
  | e :: es, i => (kEq kk k e.key).bind fun b => if b then some (some (i, e)) else kFind kk k es (i + 1)

def kMap (H : Heap) : Value → Option (List MapEntry × Nat)
  | .map (some r) => match H.get r with
    | .map es c => some (es, c)
    | _ => none
  | .map none => some ([], 0)
  | _ => none

def kMup (H : Heap) (kk : EqK) (m k v : Value) : Option Heap :=
  match m with
  | .map (some r) => match H.get r with
    | .map es c => if kKey kk k then (kFind kk k es 0).map fun
        | some (i, e) => H.put r (.map (es.set i { e with key := k, val := v }) c)
        | none => H.put r (.map (es ++ [{ key := k, val := v, born := c }]) (c + 1)) else none
    | _ => none
  | _ => none
def kMen (H : Heap) (kk : EqK) (z m k : Value) : Option (Value × Heap) :=
  match m with
  | .map (some r) => match H.get r with
    | .map es c => if kKey kk k then (kFind kk k es 0).map fun
        | some (i, e) => (.tuple #[e.val, .int .i64 e.born], H.put r (.map (es.set i { e with key := k }) c))
        | none => (.tuple #[z, .int .i64 c], H.put r (.map (es ++ [{ key := k, val := z, born := c }]) (c + 1))) else none
    | _ => none
  | _ => none
def findBorn (es : List MapEntry) (b : Int) : Option Nat := es.findIdx? fun e => (e.born : Int) == b
def kMes (H : Heap) (m s v : Value) : Option Heap :=
  match m, s with
  | .map (some r), .int _ b => match H.get r with
    | .map es c => match findBorn es b with
      | some i => match es[i]? with
        | some e => some (H.put r (.map (es.set i { e with val := v }) c))
        | none => none
      | none => none
    | _ => none
  | _, _ => none
def kDel (H : Heap) (kk : EqK) (m k : Value) : Option Heap :=
  match m with
  | .map none => if kKey kk k then some H else none
  | .map (some r) => match H.get r with
    | .map es c => if kKey kk k then (kFind kk k es 0).map fun
        | some (i, _) => H.put r (.map (es.eraseIdx i) c)
        | none => H else none
    | _ => none
  | _ => none

def setO (e : Env) : Option Nat → Value → Env
  | none, _ => e
  | some d, v => e.set d v

def noV : Value := undef

def kMx : Value → List Value → Option Value
  | .int k a, [] => some (.int k a)
  | .int k a, .int _ b :: l => kMx (.int k (if b > a then b else a)) l
  | _, _ => none
def kMn : Value → List Value → Option Value
  | .int k a, [] => some (.int k a)
  | .int k a, .int _ b :: l => kMn (.int k (if b < a then b else a)) l
  | _, _ => none

def kTas (H : Heap) (t : TypeId) (z : Value) (ok : Bool) : Value → Option (Value × Heap)
  | .iface t' v => if t' = t then some (if ok then .tuple #[v, .bool true] else v, H) else if ok then some (.tuple #[z, .bool false], H) else none
  | .nilIface => if ok then some (.tuple #[z, .bool false], H) else none
  | _ => none

def kop (o : KOp) (e : Env) (H : Heap) : Option (Value × Heap) :=
  match o with
  | .mv x => some (e.ev x, H)
  | .pick c a b => match e.ev c with
    | .bool t => some (if t then e.ev a else e.ev b, H)
    | _ => none
  | .alloc t z => some (.pointer (some ⟨H.next, 0, none⟩), H.push (.cells z t true))
  | .box t x => if isTup (e.ev x) then none else some (.pointer (some ⟨H.next, 0, none⟩), H.push (.cells (cellsL (e.ev x)) t true))
  | .build z ps => (kFill z (evPs e ps)).map fun c => (.agg c.toArray, H)
  | .bsl t len z ps => (kFill z (evPs e ps)).map fun c => (.slice (some ⟨H.next, 0, none⟩) len len, H.push (.cells c t true))
  | .ld a => (kLd H (e.ev a)).map (·, H)
  | .ldn n a => (kLdn H n (e.ev a)).map (·, H)
  | .st a v => (kSt H (e.ev a) (e.ev v)).map (noV, ·)
  | .stn n a v => (kStn H n (e.ev a) (e.ev v)).map (noV, ·)
  | .nck x => match e.ev x with
    | .pointer (some a) => some (.pointer (some a), H)
    | .func (.func f) a b => some (.func (.func f) a b, H)
    | _ => none
  | .bin o x y => (kBin o (e.ev x) (e.ev y)).map (·, H)
  | .eqv k neg x y => (kEq k (e.ev x) (e.ev y)).map fun b => (.bool (b != neg), H)
  | .un o x => (kUn o (e.ev x)).map (·, H)
  | .cvt k x => match e.ev x with
    | .int _ n => some (.int k (k.wrap n), H)
    | _ => none
  | .s2b t x => match e.ev x with
    | .string s => if s.size ≤ roomMax then some (.slice (some ⟨H.next, 0, none⟩) s.size capx, H.push (.cells (byteVals s) t true)) else none
    | _ => none
  | .b2s t x => match e.ev x with
    | .slice a n _ => (kRow H t 1 n a).bind fun l => (kBytes l).map fun bs => (.string ⟨bs.toArray⟩, H)
    | _ => none
  | .mki t x => if isTup (e.ev x) then none else some (.iface t (e.ev x), H)
  | .mkf f first cap => some (.func f (first.map e.ev).toArray (cap.map e.ev).toArray, H)
  | .mkm => some (.map (some H.next), H.push (.map [] 0))
  | .mks t z bytes l c => kMks H t z bytes (e.ev l) (e.ev c)
  | .slS x lo hi => match e.ev x with
    | .string s => (evI e 0 lo).bind fun l => (evI e s.size hi).bind fun h => (kSlS s l h).map (·, H)
    | _ => none
  | .slc t esz x lo hi => (evI e 0 lo).bind fun l => match hi with
    | none => (kSlc H t esz (e.ev x) l none).map (·, H)
    | some hi => (evI e 0 (some hi)).bind fun h => (kSlc H t esz (e.ev x) l (some h)).map (·, H)
  | .sla t len esz x lo hi => (evI e 0 lo).bind fun l => (evI e len hi).bind fun h => match e.ev x with
    | .pointer (some a) => (kSla H t len esz a l h).map (·, H)
    | _ => none
  | .fad off x => match e.ev x with
    | .pointer (some a) => some (.pointer (some (addOff a off)), H)
    | _ => none
  | .fld off x => match e.ev x with
    | .agg cs => (cs.toList[off]?).map (·, H)
    | _ => none
  | .fldn off n x => match e.ev x with
    | .agg cs => (rd cs.toList off n).map fun l => (.agg l.toArray, H)
    | _ => none
  | .iad esz x i => match e.ev x, e.ev i with
    | .slice (some a) n _, .int _ i => if 0 ≤ i ∧ i < n then some (.pointer (some (addOff a (i.toNat * esz))), H) else none
    | _, _ => none
  | .iada len esz x i => match e.ev x, e.ev i with
    | .pointer (some a), .int _ i => if 0 ≤ i ∧ i < len then some (.pointer (some (addOff a (i.toNat * esz))), H) else none
    | _, _ => none
  | .idS x i => match e.ev x, e.ev i with
    | .string s, .int _ i => if 0 ≤ i then (s.data.toList[i.toNat]?).map fun b => (.int .u8 b.toNat, H) else none
    | _, _ => none
  | .ida len x i => match e.ev x, e.ev i with
    | .agg cs, .int _ i => if 0 ≤ i ∧ i < len then (cs.toList[i.toNat]?).map (·, H) else none
    | _, _ => none
  | .idan len esz x i => match e.ev x, e.ev i with
    | .agg cs, .int _ i => if 0 ≤ i ∧ i < len then (rd cs.toList (i.toNat * esz) esz).map fun l => (.agg l.toArray, H) else none
    | _, _ => none
  | .xt x i => match e.ev x with
    | .tuple vs => (vs.toList[i]?).map (·, H)
    | _ => none
  | .lenS x => match e.ev x with
    | .string s => some (.int .i64 s.size, H)
    | _ => none
  | .lenL x => match e.ev x with
    | .slice _ n _ => some (.int .i64 n, H)
    | _ => none
  | .lenM x => (kMap H (e.ev x)).map fun p => (.int .i64 p.1.length, H)
  | .mx x xs => (kMx (e.ev x) (xs.map e.ev)).map (·, H)
  | .mn x xs => (kMn (e.ev x) (xs.map e.ev)).map (·, H)
  | .app t esz bytes x y => match e.ev y with
    | .slice a m _ => (kRow H t esz m a).bind fun news => kApp H t esz bytes (e.ev x) m news
    | _ => none
  | .appS t x y => match e.ev y with
    | .string s => kApp H t 1 1 (e.ev x) s.size (byteVals s)
    | _ => none
  | .cpy t esz x y => match e.ev x, e.ev y with
    | .slice a n _, .slice b m _ => (kRow H t esz (min m n) b).bind fun l =>
        match a with
        | none => some (.int .i64 (min m n : Nat), H)
        | some a => match H.get a.block with
          | .cells c t' true => if t' = t && decide (a.off + l.length ≤ c.length) then some (.int .i64 (min m n : Nat), H.put a.block (.cells (wr c a.off l) t' true)) else none
          | _ => none
    | _, _ => none
  | .del kk m k => (kDel H kk (e.ev m) (e.ev k)).map (.tuple #[], ·)
  | .lkp kk z ok m k => (kMap H (e.ev m)).bind fun p => if kKey kk (e.ev k) then (kFind kk (e.ev k) p.1 0).map fun
      | some (_, en) => (if ok then .tuple #[en.val, .bool true] else en.val, H)
      | none => (if ok then .tuple #[z, .bool false] else z, H) else none
  | .mup kk m k v => (kMup H kk (e.ev m) (e.ev k) (e.ev v)).map (noV, ·)
  | .men kk z m k => kMen H kk z (e.ev m) (e.ev k)
  | .mes m s v => (kMes H (e.ev m) (e.ev s) (e.ev v)).map (noV, ·)
  | .tas t z ok x => kTas H t z ok (e.ev x)
  | .call _ _ | .callp _ _ | .callv _ _ | .inv _ _ _ | .nev => none

/-- how the receiver of an interface's method is handed over: as it is, or loaded -/
inductive Recv where
  | as
  | ld
  | ldn (n : Nat)

abbrev CallO := FuncId → List Value → Heap → Option (Value × Heap)

structure Sys where
  F : FuncId → Option KFunc
  M : TypeId → String → Option (FuncId × Recv)
  R : FuncId → Option (List Value → Heap → Option (Value × Heap))
  /-- functions that go through the slice that they hold from its end -/
  B : FuncId → Bool

def recvOf (H : Heap) (v : Value) : Recv → Option Value
  | .as => some v
  | .ld => kLd H v
  | .ldn n => kLdn H n v

/-- numbers, bools, texts: what stands in no memory -/
def gnd1 : Value → Bool
  | .bool _ | .int _ _ | .string _ => true
  | _ => false
def gndV : Value → Bool
  | .agg xs | .tuple xs => xs.toList.all gnd1
  | v => gnd1 v

def kExec (S : Sys) (call : CallO) (o : KOp) (e : Env) (H : Heap) : Option (Value × Heap) :=
  match o with
  | .call f args => call f (args.map e.ev) H
  | .callp f args => if (args.map e.ev).all gndV then (call f (args.map e.ev) []).bind fun p => if gndV p.1 then some (p.1, H) else none else none
  | .callv f args => match e.ev f with
    | .func (.func f) first cap => call f (first.toList ++ args.map e.ev ++ cap.toList) H
    | _ => none
  | .inv r name args => match e.ev r with
    | .iface t v => (S.M t name).bind fun p => (recvOf H v p.2).bind fun x => call p.1 (x :: args.map e.ev) H
    | _ => none
  | o => kop o e H

/-- is it to be done? -/
def wants (e : Env) : Option (Nat × Bool) → Bool
  | none => true
  | some (s, w) => match e.get s with
    | .bool b => b == w
    | _ => false

def veq1 : Value → Value → Bool
  | .bool a, .bool b => a == b
  | .int k a, .int k' b => decide (k = k') && decide (a = b)
  | .string a, .string b => decide (a = b)
  | .pointer a, .pointer b => decide (a = b)
  | .slice a n c, .slice a' n' c' => decide (a = a') && decide (n = n') && decide (c = c')
  | .map a, .map b => decide (a = b)
  | .nilFunc, .nilFunc => true
  | .nilIface, .nilIface => true
  | _, _ => false
def veqL : List Value → List Value → Bool
  | [], [] => true
  | x :: xs, y :: ys => veq1 x y && veqL xs ys
  | _, _ => false
def veq : Value → Value → Bool
  | .agg xs, .agg ys => veqL xs.toList ys.toList
  | x, y => veq1 x y

def kStep (S : Sys) (call : CallO) : KStep → Env → Heap → Option (Env × Heap)
  | .op dst g o, e, H => if wants e g then (kExec S call o e H).map fun p => (setO e dst p.1, p.2) else some (setO e dst undef, H)
  | .chk dst g o, e, H => if wants e g then (kop o e H).bind fun p => if veq p.1 (e.get dst) then some (e, H) else none else some (e, H)

def kSteps (S : Sys) (call : CallO) : List KStep → Env → Heap → Option (Env × Heap)
  | [], e, H => some (e, H)
  | s :: l, e, H => (kStep S call s e H).bind fun p => kSteps S call l p.1 p.2

inductive KExit where
  | normal
  | exit (id : Nat)
  | ret
  deriving DecidableEq

structure KSt where
  x : KExit
  e : Env
  H : Heap

def evLoop (f : Env → Heap → Option KSt) : Nat → Env → Heap → Option KSt
  | 0, _, _ => none
  | m + 1, e, H => (f e H).bind fun s => match s.x with
    | .normal => evLoop f m s.e s.H
    | _ => some s

/-- an operation is done to each element -/
def decE (o : BinOp) (c : Value) : List MapEntry → Option (List MapEntry)
  | [] => some []
  | en :: es => (kBin o en.val c).bind fun v => (decE o c es).map ({ en with val := v } :: ·)
/-- keys that are found where they stand -/
def keysOk (kk : EqK) (es : List MapEntry) : List MapEntry → Nat → Bool
  | [], _ => true
  | en :: l, i => kKey kk en.key && (match kFind kk en.key es 0 with
    | some (some (j, _)) => j == i
    | _ => false) && keysOk kk es l (i + 1)
/-- stamps that are unlike, and elder than the clock -/
def bornOk (es : List MapEntry) (ck : Nat) : Bool := decide ((es.map (·.born)).Nodup) && es.all (fun e => decide (e.born < ck))
def kDec (kk : EqK) (o : BinOp) (c : Value) (m : Value) (H : Heap) : Option (Value × Heap) :=
  match m with
  | .map (some b) => match H.get b with
    | .map es ck => if keysOk kk es es 0 && bornOk es ck then (decE o c es).map fun es' => (.map (some b), (H.push .dead).put b (.map es' ck)) else none
    | _ => none
  | _ => none

def kElm (H : Heap) (v : Value) (i : Nat) : Option Value := match v with
  | .slice (some a) n _ => if i < n then kLd H (.pointer (some (addOff a i))) else none
  | _ => none
def bkCell (B : FuncId → Bool) : Value → Option Addr
  | .func (.func f) fs cs => if B f then match fs.toList, cs.toList with
    | [], [.pointer (some c)] => some c
    | _, _ => none else none
  | _ => none
def bkLen : Value → Option Nat
  | .slice _ n _ => if n ≤ 1099511627776 then some n else none
  | _ => none
def evBk (f : Nat → Heap → Option (KExit × Heap)) : Nat → Heap → Option (KExit × Heap)
  | 0, H => some (.normal, H)
  | i + 1, H => (f i H).bind fun r => match r.1 with
    | .normal => evBk f i r.2
    | .ret => some r
    | .exit _ => none
/-- a round: what is assigned, and what is done -/
def evRd (asg body : Env → Heap → Option KSt) (e : Env) (p1 p2 : Nat) (c : Addr) (i : Nat) (H : Heap) : Option (KExit × Heap) :=
  (kLd H (.pointer (some c))).bind fun v => (kElm H v i).bind fun x => (asg ((e.set p1 (.int .i64 i)).set p2 x) H).bind fun s => match s.x with
    | .normal => (body s.e s.H).map fun s2 => (s2.x, s2.H)
    | _ => none

def evCode (S : Sys) (call : CallO) (n : Nat) : KCode → Env → Heap → Option KSt
  | .skip, e, H => some ⟨.normal, e, H⟩
  | .reg l, e, H => (kSteps S call l e H).map fun p => ⟨.normal, p.1, p.2⟩
  | .seq a b, e, H => (evCode S call n a e H).bind fun s => match s.x with
    | .normal => evCode S call n b s.e s.H
    | _ => some s
  | .cond c a b, e, H => match e.ev c with
    | .bool true => evCode S call n a e H
    | .bool false => evCode S call n b e H
    | _ => none
  | .block id c, e, H => (evCode S call n c e H).map fun s => if s.x = .exit id then ⟨.normal, s.e, s.H⟩ else s
  | .loop c, e, H => evLoop (fun e H => evCode S call n c e H) n e H
  | .exit id, e, H => some ⟨.exit id, e, H⟩
  | .ret, e, H => some ⟨.ret, e, H⟩
  | .nev, _, _ => none
  | .mdec m r kk o c, e, H => (kDec kk o c (e.get m) H).map fun p => ⟨.ret, e.set r p.1, p.2⟩
  | .back g p1 p2 asg body, e, H => (bkCell S.B (e.get g)).bind fun c => (kLd H (.pointer (some c))).bind fun v => (bkLen v).bind fun l =>
    (evBk (evRd (fun e H => evCode S call n asg e H) (fun e H => evCode S call n body e H) e p1 p2 c) l H).map fun r => ⟨r.1, e, r.2⟩

def kRes1 (e : Env) (H : Heap) : KRes → Option Value
  | .t n => some (e.get n)
  | .c1 a => kLd H (e.get a)
  | .cn a n => kLdn H n (e.get a)
def kResL (e : Env) (H : Heap) : List KRes → Option (List Value)
  | [] => some []
  | r :: rs => (kRes1 e H r).bind fun v => (kResL e H rs).map (v :: ·)
def tup : List Value → Value
  | [v] => v
  | vs => .tuple vs.toArray
def kRes (e : Env) (H : Heap) (rs : List KRes) : Option Value := (kResL e H rs).map tup

def evFn (S : Sys) : Nat → CallO
  | 0 => fun _ _ _ => none
  | n + 1 => fun f args H => match S.R f with
    | some p => p args H
    | none => (S.F f).bind fun k => (evCode S (evFn S n) n k.body args H).bind fun s =>
        if s.x = .normal ∨ s.x = .ret then (kRes s.e s.H k.res).map (·, s.H) else none

end Go.Proofs.YtjgpbhodbgjggaaGreat.K
/- How the abstract heap of K stands to the memory of the model: a place for each block, values cell by cell; what each step of memory does to that. -/
namespace Go.Proofs.YtjgpbhodbgjggaaGreat.K
open Go Go.RowKit

/-- blocks of the memory that stay as they are -/
structure Fz where
  fr : Nat → Prop
  gh : Nat → Prop
structure Bel (F : Fz) (w w' : World) : Prop where
  os : w'.os = w.os
  tape : w'.tape = w.tape
  output : w'.output = w.output
  size : w.heap.size ≤ w'.heap.size
  block : ∀ k, F.fr k ∨ F.gh k → w'.heap[k]? = w.heap[k]?
theorem Bel.refl (F : Fz) (w : World) : Bel F w w := ⟨rfl, rfl, rfl, Nat.le_refl _, fun _ _ => rfl⟩
theorem Bel.trans {F : Fz} {a b c : World} (h : Bel F a b) (k : Bel F b c) : Bel F a c :=
  ⟨k.os.trans h.os, k.tape.trans h.tape, k.output.trans h.output, Nat.le_trans h.size k.size, fun i hi => (k.block i hi).trans (h.block i hi)⟩
theorem Bel.mono {F F' : Fz} {w w' : World} (h : Bel F w w') (hF : ∀ k, F'.fr k ∨ F'.gh k → F.fr k ∨ F.gh k) : Bel F' w w' := ⟨h.os, h.tape, h.output, h.size, fun k hk => h.block k (hF k hk)⟩
theorem Bel.drew {F : Fz} {a w : World} (h : Bel F a w) : Bel F a w.drew := ⟨h.os, h.tape, h.output, h.size, h.block⟩
theorem Bel.alloc {F : Fz} {a w : World} (h : Bel F a w) (hF : ∀ k, F.fr k ∨ F.gh k → k < w.heap.size) (o : Obj) : Bel F a (w.alloc o) :=
  h.trans ⟨rfl, rfl, rfl, by simp, fun k hk => Below.heap_alloc _ _ _ (hF k hk)⟩
/-- what lies below a number stays; there are no ghosts -/
def Fz.lo (n : Nat) : Fz := ⟨fun k => k < n, fun _ => False⟩
theorem Bel.below {w w' : World} (h : Bel (Fz.lo w.heap.size) w w') : Below w.heap.size w w' := ⟨h.os, h.tape, h.output, h.size, fun k hk => h.block k (.inl hk)⟩

structure Loc where
  block : Nat
  off : Nat
  size : Nat
  elem : TypeId
abbrev Rho := List Loc

section
variable (P : Program)

inductive VRel (ρ : Rho) : Value → Value → Prop
  | bool (b : Bool) : VRel ρ (.bool b) (.bool b)
  | int (k : IntKind) (n : Int) : VRel ρ (.int k n) (.int k n)
  | string (s : ByteArray) : VRel ρ (.string s) (.string s)
  | pnil : VRel ρ (.pointer none) (.pointer none)
  | ptr {b off : Nat} {L : Loc} (h : ρ[b]? = some L) : VRel ρ (.pointer (some ⟨b, off, none⟩)) (.pointer (some ⟨L.block, L.off + off, none⟩))
  | snil : VRel ρ (.slice none 0 0) (.slice none 0 0)
  | sl {b off n c c' : Nat} {L : Loc} (h : ρ[b]? = some L) (hn : n ≤ c') (hc : c' = c ∨ c = capx) (hs : L.off + off + c' * P.cellsOf L.elem ≤ L.size) :
      VRel ρ (.slice (some ⟨b, off, none⟩) n c) (.slice (some ⟨L.block, L.off + off, none⟩) n c')
  | sl0 {b off : Nat} {a' : Addr} : VRel ρ (.slice (some ⟨b, off, none⟩) 0 capx) (.slice (some a') 0 0)
  | mnil : VRel ρ (.map none) (.map none)
  | map {b : Nat} {L : Loc} (h : ρ[b]? = some L) : VRel ρ (.map (some b)) (.map (some L.block))
  | func (f : Fn) {a a' c c' : Array Value} (hs : a.size = a'.size) (h : ∀ (i : Nat) x y, a[i]? = some x → a'[i]? = some y → VRel ρ x y)
      (hs2 : c.size = c'.size) (h2 : ∀ (i : Nat) x y, c[i]? = some x → c'[i]? = some y → VRel ρ x y) : VRel ρ (.func f a c) (.func f a' c')
  | nilFunc : VRel ρ .nilFunc .nilFunc
  | nilIface : VRel ρ .nilIface .nilIface
  | iface (t : TypeId) {v v' : Value} (h : VRel ρ v v') : VRel ρ (.iface t v) (.iface t v')
  | agg {xs ys : Array Value} (hs : xs.size = ys.size) (h : ∀ (i : Nat) x y, xs[i]? = some x → ys[i]? = some y → VRel ρ x y)
      (ho : ∀ (i : Nat) x, xs[i]? = some x → oneC x = true) : VRel ρ (.agg xs) (.agg ys)
  | tuple {xs ys : Array Value} (hs : xs.size = ys.size) (h : ∀ (i : Nat) x y, xs[i]? = some x → ys[i]? = some y → VRel ρ x y) :
      VRel ρ (.tuple xs) (.tuple ys)

variable {P}
theorem pre_get {ρ ρ' : Rho} (h : ρ <+: ρ') {b : Nat} {L : Loc} (hb : ρ[b]? = some L) : ρ'[b]? = some L := by
  obtain ⟨τ, rfl⟩ := h
  rw [List.getElem?_append_left (List.getElem?_eq_some_iff.1 hb).1]; exact hb

theorem VRel.mono {ρ ρ' : Rho} (h : ρ <+: ρ') {x y : Value} (hv : VRel P ρ x y) : VRel P ρ' x y := by
  induction hv with
  | bool b => exact .bool b
  | int k n => exact .int k n
  | string s => exact .string s
  | pnil => exact .pnil
  | ptr hb => exact .ptr (pre_get h hb)
  | snil => exact .snil
  | sl hb hn hc hs => exact .sl (pre_get h hb) hn hc hs
  | sl0 => exact .sl0
  | mnil => exact .mnil
  | map hb => exact .map (pre_get h hb)
  | func f hs _ hs2 _ ih1 ih2 => exact .func f hs ih1 hs2 ih2
  | nilFunc => exact .nilFunc
  | nilIface => exact .nilIface
  | iface t _ ih => exact .iface t ih
  | agg hs _ ho ih => exact .agg hs ih ho
  | tuple hs _ ih => exact .tuple hs ih

theorem VRel.undef {ρ : Rho} : VRel P ρ undef undef := .tuple rfl (fun i x y hx => by simp at hx)

theorem VRel.oneC_eq {ρ : Rho} {x y : Value} (h : VRel P ρ x y) : oneC y = oneC x := by cases h <;> rfl

/-- lists of values -/
def VL (P : Program) (ρ : Rho) (xs ys : List Value) : Prop := xs.length = ys.length ∧ ∀ (i : Nat) x y, xs[i]? = some x → ys[i]? = some y → VRel P ρ x y

theorem VL.mono {ρ ρ' : Rho} (h : ρ <+: ρ') {xs ys : List Value} (hv : VL P ρ xs ys) : VL P ρ' xs ys := ⟨hv.1, fun i x y hx hy => (hv.2 i x y hx hy).mono h⟩
theorem VL.nil {ρ : Rho} : VL P ρ [] [] := ⟨rfl, fun i x y hx => by simp at hx⟩
theorem VL.cons {ρ : Rho} {x y : Value} {xs ys : List Value} (h : VRel P ρ x y) (t : VL P ρ xs ys) : VL P ρ (x :: xs) (y :: ys) :=
  ⟨by simp [t.1], fun i a b ha hb => by
    cases i with
    | zero => simp at ha hb; subst ha; subst hb; exact h
    | succ i => simp at ha hb; exact t.2 i a b ha hb⟩
theorem VL.append {ρ : Rho} {xs ys xs' ys' : List Value} (h : VL P ρ xs ys) (t : VL P ρ xs' ys') : VL P ρ (xs ++ xs') (ys ++ ys') :=
  ⟨by simp [h.1, t.1], fun i a b ha hb => by
    rcases Nat.lt_or_ge i xs.length with hi | hi
    · rw [List.getElem?_append_left hi] at ha
      rw [List.getElem?_append_left (h.1 ▸ hi)] at hb
      exact h.2 i a b ha hb
    · rw [List.getElem?_append_right hi] at ha
      rw [List.getElem?_append_right (h.1 ▸ hi), ← h.1] at hb
      exact t.2 _ a b ha hb⟩
theorem VL.take {ρ : Rho} {xs ys : List Value} (h : VL P ρ xs ys) (n : Nat) : VL P ρ (xs.take n) (ys.take n) :=
  ⟨by simp [h.1], fun i a b ha hb => by
    rw [List.getElem?_take] at ha hb
    split at ha
    · rename_i hi; rw [if_pos hi] at hb; exact h.2 i a b ha hb
    · cases ha⟩
theorem VL.drop {ρ : Rho} {xs ys : List Value} (h : VL P ρ xs ys) (n : Nat) : VL P ρ (xs.drop n) (ys.drop n) :=
  ⟨by simp [h.1], fun i a b ha hb => by
    rw [List.getElem?_drop] at ha hb
    exact h.2 _ a b ha hb⟩
theorem VL.get {ρ : Rho} {xs ys : List Value} (h : VL P ρ xs ys) {i : Nat} {x : Value} (hx : xs[i]? = some x) : ∃ y, ys[i]? = some y ∧ VRel P ρ x y := by
  have hi : i < ys.length := h.1 ▸ (List.getElem?_eq_some_iff.1 hx).1
  exact ⟨ys[i], List.getElem?_eq_getElem hi, h.2 i x _ hx (List.getElem?_eq_getElem hi)⟩
theorem VL.arr {ρ : Rho} {xs ys : Array Value} (hs : xs.size = ys.size) (h : ∀ (i : Nat) x y, xs[i]? = some x → ys[i]? = some y → VRel P ρ x y) : VL P ρ xs.toList ys.toList :=
  ⟨by simpa using hs, fun i x y hx hy => h i x y (by simpa using hx) (by simpa using hy)⟩

/-- cells of the model's memory, read and written in rows -/
def ERelm (P : Program) (ρ : Rho) (x y : MapEntry) : Prop := VRel P ρ x.key y.key ∧ VRel P ρ x.val y.val ∧ x.born = y.born

def BRel (P : Program) (ρ : Rho) (w : World) (L : Loc) : Blk → Prop
  | .dead => True
  | .cells c t rw => L.elem = t ∧ ∃ (arr : Array Value) (tw : TypeId) (fr : Nat × Nat), w.heap[L.block]? = some (.cells arr tw fr) ∧ arr.size = L.size ∧ L.off + c.length ≤ arr.size ∧
      (∀ (i : Nat) x, c[i]? = some x → oneC x = true ∧ ∃ y, arr[L.off + i]? = some y ∧ VRel P ρ x y) ∧ (rw = true → ∀ i, i < arr.size → (decide (fr.1 ≤ i) && decide (i < fr.2)) = false)
  | .map es clock => ∃ es' : Array MapEntry, w.heap[L.block]? = some (.map es' clock) ∧ es'.size = es.length ∧ ∀ (i : Nat) x y, es[i]? = some x → es'[i]? = some y → ERelm P ρ x y
  | .iter o => w.heap[L.block]? = some o

def Blk.own : Blk → Bool
  | .dead => false
  | .cells _ _ rw => rw
  | .map _ _ => true
  | .iter _ => false
def Blk.live : Blk → Bool
  | .dead => false
  | _ => true

structure HRel (P : Program) (B : Fz) (w0 : World) (ρ : Rho) (H : Heap) (w : World) : Prop where
  below : Bel B w0 w
  base : ∀ k, B.fr k ∨ B.gh k → k < w.heap.size
  len : ρ.length = H.length
  blk : ∀ (b : Nat) L, ρ[b]? = some L → BRel P ρ w L (H.get b)
  own : ∀ (b : Nat) L, ρ[b]? = some L → (H.get b).own = true → ¬ B.fr L.block
  ghost : ∀ (b : Nat) L, ρ[b]? = some L → (H.get b).live = true → ¬ B.gh L.block
  inj : ∀ (b b' : Nat) L L', ρ[b]? = some L → ρ[b']? = some L' → b ≠ b' → (H.get b).own = true → (H.get b').live = true → L.block ≠ L'.block

/- the abstract heap -/
theorem Heap.get_eq (H : Heap) (b : Nat) : H.get b = (H[b]?).getD .dead := by
  induction H generalizing b with
  | nil => simp [Heap.get]
  | cons x H ih => cases b <;> simp [Heap.get, ih]
theorem Heap.length_put (H : Heap) (b : Nat) (x : Blk) : (H.put b x).length = H.length := by
  induction H generalizing b with
  | nil => simp [Heap.put]
  | cons y H ih => cases b <;> simp [Heap.put, ih]
theorem Heap.get_put (H : Heap) (b b' : Nat) (x : Blk) : (H.put b x).get b' = if b' = b ∧ b < H.next then x else H.get b' := by
  induction H generalizing b b' with
  | nil => simp [Heap.put, Heap.get, Heap.next]
  | cons y H ih =>
    cases b with
    | zero => cases b' <;> simp [Heap.put, Heap.get, Heap.next]
    | succ b =>
      cases b' with
      | zero => simp [Heap.put, Heap.get]
      | succ b' =>
        simp only [Heap.put, Heap.get, ih]
        by_cases hc : b' = b ∧ b < Heap.next H
        · rw [if_pos hc, if_pos ⟨by omega, by have := hc.2; simp only [Heap.next, List.length_cons] at this ⊢; omega⟩]
        · rw [if_neg hc, if_neg (fun h => hc ⟨by omega, by have := h.2; simp only [Heap.next, List.length_cons] at this ⊢; omega⟩)]
theorem Heap.get_push (H : Heap) (b : Nat) (x : Blk) : (H.push x).get b = if b = H.next then x else H.get b := by
  simp only [Heap.get_eq, Heap.push, Heap.next]
  rcases Nat.lt_trichotomy b H.length with h | h | h
  · rw [List.getElem?_append_left h, if_neg (by omega)]
  · subst h; simp
  · rw [List.getElem?_append_right (by omega), if_neg (by omega), List.getElem?_eq_none (l := H) (by omega)]
    simp only [Option.getD_none]
    rw [List.getElem?_eq_none (by simp; omega)]; rfl
theorem Heap.lt_of_live {H : Heap} {b : Nat} (h : (H.get b).live = true) : b < H.next := by
  rw [Heap.get_eq] at h
  rcases Nat.lt_or_ge b H.length with h' | h'
  · exact h'
  · rw [List.getElem?_eq_none h'] at h; simp [Blk.live] at h
theorem Heap.next_put (H : Heap) (b : Nat) (x : Blk) : (H.put b x).next = H.next := Heap.length_put H b x
theorem Heap.next_push (H : Heap) (x : Blk) : (H.push x).next = H.next + 1 := by simp [Heap.push, Heap.next]

theorem own_live {b : Blk} (h : b.own = true) : b.live = true := by cases b <;> simp_all [Blk.own, Blk.live]

theorem rho_of_live {B : Fz} {w0 w : World} {ρ : Rho} {H : Heap} (h : HRel P B w0 ρ H w) {b : Nat} (hb : (H.get b).live = true) : ∃ L, ρ[b]? = some L := by
  have := Heap.lt_of_live hb
  exact ⟨ρ[b]'(by rw [h.len]; exact this), List.getElem?_eq_getElem _⟩

theorem BRel.mono {ρ ρ' : Rho} (h : ρ <+: ρ') {w w' : World} {L : Loc} {x : Blk} (hw : x.live = true → w'.heap[L.block]? = w.heap[L.block]?) (hx : BRel P ρ w L x) : BRel P ρ' w' L x := by
  cases x with
  | dead => trivial
  | cells c t rw =>
    obtain ⟨h1, arr, tw, fr, h2, h3, h4, h5, h6⟩ := hx
    exact ⟨h1, arr, tw, fr, (hw rfl).trans h2, h3, h4, fun i x hx => ⟨(h5 i x hx).1, let ⟨y, hy, hv⟩ := (h5 i x hx).2; ⟨y, hy, hv.mono h⟩⟩, h6⟩
  | map es clock =>
    obtain ⟨es', h2, h3, h4⟩ := hx
    exact ⟨es', (hw rfl).trans h2, h3, fun i x y hx hy => ⟨(h4 i x y hx hy).1.mono h, (h4 i x y hx hy).2.1.mono h, (h4 i x y hx hy).2.2⟩⟩
  | iter o => exact (hw rfl).trans hx

theorem BRel.lt {ρ : Rho} {w : World} {L : Loc} {x : Blk} (hx : BRel P ρ w L x) (hl : x.live = true) : L.block < w.heap.size := by
  cases x with
  | dead => cases hl
  | cells c t rw => obtain ⟨_, arr, tw, fr, h2, _⟩ := hx; exact (Array.getElem?_eq_some_iff.1 h2).1
  | map es clock => obtain ⟨es', h2, _⟩ := hx; exact (Array.getElem?_eq_some_iff.1 h2).1
  | iter o => exact (Array.getElem?_eq_some_iff.1 (show w.heap[L.block]? = some o from hx)).1

section
variable {B : Fz} {w0 w : World} {ρ : Rho} {H : Heap}

/-- the world turned where no block lives -/
theorem HRel.world {w' : World} (h : HRel P B w0 ρ H w) (hb : Bel B w w') (hw : ∀ i, i < w.heap.size → w'.heap[i]? = w.heap[i]?) : HRel P B w0 ρ H w' :=
  ⟨h.below.trans hb, fun k hk => Nat.lt_of_lt_of_le (h.base k hk) hb.size, h.len, fun b L hL => (h.blk b L hL).mono (List.prefix_refl _) (fun hl => hw _ ((h.blk b L hL).lt hl)), h.own, h.ghost, h.inj⟩

theorem HRel.drew (h : HRel P B w0 ρ H w) : HRel P B w0 ρ H w.drew := h.world ((Bel.refl B w).drew) (fun _ _ => rfl)

/-- a new block, at a place where none lives -/
theorem HRel.push_at (h : HRel P B w0 ρ H w) {x : Blk} {L : Loc} {w' : World} (hB : ¬ B.fr L.block) (hG : ¬ B.gh L.block) (hfree : ∀ (b : Nat) L', ρ[b]? = some L' → (H.get b).live = true → L'.block ≠ L.block)
    (hb : Bel B w w') (hw : ∀ i, i ≠ L.block → i < w.heap.size → w'.heap[i]? = w.heap[i]?) (hx : BRel P (ρ ++ [L]) w' L x) : HRel P B w0 (ρ ++ [L]) (H.push x) w' := by
  have hpre : ρ <+: ρ ++ [L] := List.prefix_append _ _
  have hget : ∀ b L', (ρ ++ [L])[b]? = some L' → (b = H.next ∧ L' = L) ∨ (b < H.next ∧ ρ[b]? = some L') := by
    intro b L' hb
    rcases Nat.lt_or_ge b ρ.length with hlt | hge
    · rw [List.getElem?_append_left hlt] at hb; exact .inr ⟨by rw [Heap.next, ← h.len]; exact hlt, hb⟩
    · rw [List.getElem?_append_right hge] at hb
      have : b - ρ.length = 0 := by
        rcases Nat.eq_zero_or_pos (b - ρ.length) with h0 | h0
        · exact h0
        · rw [List.getElem?_eq_none (by simp; omega)] at hb; cases hb
      rw [this] at hb; simp at hb
      exact .inl ⟨by rw [Heap.next, ← h.len]; omega, hb.symm⟩
  refine ⟨h.below.trans hb, fun k hk => Nat.lt_of_lt_of_le (h.base k hk) hb.size, by simp [Heap.push, h.len], ?_, ?_, ?_, ?_⟩
  · intro b L' hb
    rcases hget b L' hb with ⟨rfl, rfl⟩ | ⟨hlt, hb'⟩
    · rw [Heap.get_push, if_pos rfl]; exact hx
    · rw [Heap.get_push, if_neg (by omega)]
      exact (h.blk b L' hb').mono hpre (fun hl => hw _ (hfree b L' hb' hl) ((h.blk b L' hb').lt hl))
  · intro b L' hb ho
    rcases hget b L' hb with ⟨rfl, rfl⟩ | ⟨hlt, hb'⟩
    · exact hB
    · rw [Heap.get_push, if_neg (by omega)] at ho; exact h.own b L' hb' ho
  · intro b L' hb hl
    rcases hget b L' hb with ⟨rfl, rfl⟩ | ⟨hlt, hb'⟩
    · exact hG
    · rw [Heap.get_push, if_neg (by omega)] at hl; exact h.ghost b L' hb' hl
  · intro b b' L1 L2 h1 h2 hne ho hl
    rcases hget b L1 h1 with ⟨rfl, rfl⟩ | ⟨hlt, hb⟩ <;> rcases hget b' L2 h2 with ⟨rfl, rfl⟩ | ⟨hlt', hb'⟩
    · exact absurd rfl hne
    · rw [Heap.get_push, if_neg (by omega)] at hl
      exact (hfree b' L2 hb' hl).symm
    · rw [Heap.get_push, if_neg (by omega)] at ho
      exact hfree b L1 hb (own_live ho)
    · rw [Heap.get_push, if_neg (by omega)] at ho hl
      exact h.inj b b' L1 L2 hb hb' hne ho hl

/-- a new block -/
theorem HRel.push (h : HRel P B w0 ρ H w) {x : Blk} {o : Obj} {L : Loc} (hL : L.block = w.heap.size) (hx : BRel P (ρ ++ [L]) (w.alloc o) L x) :
    HRel P B w0 (ρ ++ [L]) (H.push x) (w.alloc o) :=
  h.push_at (fun hf => by have := h.base _ (.inl hf); omega) (fun hf => by have := h.base _ (.inr hf); omega) (fun b L' hb hl e => by have := (h.blk b L' hb).lt hl; omega) ((Bel.refl B w).alloc h.base o) (fun i _ hi => Below.heap_alloc _ _ _ hi) hx

/-- a block of one's own is written -/
theorem HRel.put (h : HRel P B w0 ρ H w) {b : Nat} {x : Blk} {w' : World} (ho : (H.get b).own = true) {L : Loc} (hL : ρ[b]? = some L) (hx : BRel P ρ w' L x)
    (hb : Bel B w w') (hw : ∀ i, i ≠ L.block → w'.heap[i]? = w.heap[i]?) : HRel P B w0 ρ (H.put b x) w' := by
  have hlt : b < H.next := Heap.lt_of_live (own_live ho)
  have hg : ∀ b', (H.put b x).get b' = if b' = b then x else H.get b' := fun b' => by rw [Heap.get_put]; simp [hlt]
  refine ⟨h.below.trans hb, fun k hk => Nat.lt_of_lt_of_le (h.base k hk) hb.size, by rw [h.len, Heap.length_put], ?_, ?_, ?_, ?_⟩
  · intro b' L' hb'
    rw [hg]
    split
    · rename_i he; subst he; rw [hL] at hb'; cases hb'; exact hx
    · rename_i hne
      exact (h.blk b' L' hb').mono (List.prefix_refl _) (fun hl => hw _ (fun e => h.inj b b' L L' hL hb' (Ne.symm hne) ho hl e.symm))
  · intro b' L' hb' ho'
    rw [hg] at ho'
    split at ho'
    · rename_i he; subst he; rw [hL] at hb'; cases hb'; exact h.own b' L hL ho
    · exact h.own b' L' hb' ho'
  · intro b' L' hb' hl'
    rw [hg] at hl'
    split at hl'
    · rename_i he; subst he; rw [hL] at hb'; cases hb'; exact h.ghost b' L hL (own_live ho)
    · exact h.ghost b' L' hb' hl'
  · intro b1 b2 L1 L2 h1 h2 hne ho1 hl2
    rw [hg] at ho1 hl2
    have ho1' : (H.get b1).own = true := by
      split at ho1
      · rename_i he; rw [he]; exact ho
      · exact ho1
    have hl2' : (H.get b2).live = true := by
      split at hl2
      · rename_i he; rw [he]; exact own_live ho
      · exact hl2
    exact h.inj b1 b2 L1 L2 h1 h2 hne ho1' hl2'

/-- a block is not looked at any more -/
theorem HRel.kill (h : HRel P B w0 ρ H w) (b : Nat) : HRel P B w0 ρ (H.put b .dead) w := by
  refine ⟨h.below, h.base, by rw [h.len, Heap.length_put], ?_, ?_, ?_, ?_⟩
  · intro b' L' hb'
    rw [Heap.get_put]; split
    · trivial
    · exact h.blk b' L' hb'
  · intro b' L' hb' ho'
    rw [Heap.get_put] at ho'; split at ho'
    · cases ho'
    · exact h.own b' L' hb' ho'
  · intro b' L' hb' hl'
    rw [Heap.get_put] at hl'; split at hl'
    · cases hl'
    · exact h.ghost b' L' hb' hl'
  · intro b1 b2 L1 L2 h1 h2 hne ho1 hl2
    rw [Heap.get_put] at ho1 hl2
    split at ho1
    · cases ho1
    · split at hl2
      · cases hl2
      · exact h.inj b1 b2 L1 L2 h1 h2 hne ho1 hl2

end
end
end Go.Proofs.YtjgpbhodbgjggaaGreat.K
/- K's operations on memory, each held against the model's own: load, store, new blocks, append, copy, make, maps. -/
set_option linter.unusedVariables false
set_option linter.unusedSimpArgs false
namespace Go.Proofs.YtjgpbhodbgjggaaGreat.K
open Go Go.RowKit

/-- is a value of this type made of parts? -/
def isAggD : TypeDesc → Bool
  | .struct _ | .array _ _ => true
  | _ => false

theorem oneC_eq (v : Value) : v.oneCell' = oneC v := by cases v <;> rfl

section
variable {P : Program} {B : Fz} {w0 w : World} {ρ : Rho} {H : Heap}

def Gives (P : Program) (B : Fz) (w0 : World) (ρ : Rho) (s : Sem Value) (w : World) (v : Value) (H' : Heap) : Prop :=
  ∃ ρ' v' w', s.run P w = .ok v' w' ∧ ρ <+: ρ' ∧ VRel P ρ' v v' ∧ HRel P B w0 ρ' H' w'
def GivesU (P : Program) (B : Fz) (w0 : World) (ρ : Rho) (s : Sem Unit) (w : World) (H' : Heap) : Prop :=
  ∃ ρ' w', s.run P w = .ok () w' ∧ ρ <+: ρ' ∧ HRel P B w0 ρ' H' w'

theorem Gives.same {s : Sem Value} {v v' : Value} (h : HRel P B w0 ρ H w) (hr : s.run P w = .ok v' w) (hv : VRel P ρ v v') : Gives P B w0 ρ s w v H :=
  ⟨ρ, v', w, hr, List.prefix_refl _, hv, h⟩

theorem VRel.pointer_inv {x' : Value} {a : Addr} (h : VRel P ρ (.pointer (some a)) x') : ∃ L, a.spot = none ∧ ρ[a.block]? = some L ∧ x' = .pointer (some ⟨L.block, L.off + a.off, none⟩) := by
  cases h with | ptr hb => exact ⟨_, rfl, hb, rfl⟩

theorem cells_inv {b : Nat} {c : List Value} {t : TypeId} {rw : Bool} {L : Loc} (h : HRel P B w0 ρ H w) (hg : H.get b = .cells c t rw) (hL : ρ[b]? = some L) :
    L.elem = t ∧ ∃ (arr : Array Value) (tw : TypeId) (fr : Nat × Nat), w.heap[L.block]? = some (.cells arr tw fr) ∧ arr.size = L.size ∧ L.off + c.length ≤ arr.size ∧
      (∀ (i : Nat) x, c[i]? = some x → oneC x = true ∧ ∃ y, arr[L.off + i]? = some y ∧ VRel P ρ x y) ∧ (rw = true → ∀ i, i < arr.size → (decide (fr.1 ≤ i) && decide (i < fr.2)) = false) := by
  have := h.blk b L hL
  rw [hg] at this
  exact this

theorem cell_at {b i : Nat} {c : List Value} {t : TypeId} {rw : Bool} {L : Loc} {x : Value} (h : HRel P B w0 ρ H w) (hg : H.get b = .cells c t rw) (hL : ρ[b]? = some L) (hx : c[i]? = some x) :
    oneC x = true ∧ ∃ y, w.cell? ⟨L.block, L.off + i, none⟩ = some y ∧ VRel P ρ x y := by
  obtain ⟨_, arr, tw, fr, h2, _, _, h5, _⟩ := cells_inv h hg hL
  obtain ⟨ho, y, hy, hv⟩ := h5 i x hx
  exact ⟨ho, y, by simp [World.cell?, h2, hy], hv⟩

theorem rd_some {c l : List Value} {off n : Nat} (h : rd c off n = some l) : off + n ≤ c.length ∧ l = (c.drop off).take n := by
  unfold rd at h; split at h
  · exact ⟨by assumption, by simpa using h.symm⟩
  · cases h
theorem rd_length {c l : List Value} {off n : Nat} (h : rd c off n = some l) : l.length = n := by
  obtain ⟨h1, rfl⟩ := rd_some h; simp; omega

/-- a row of cells, read -/
theorem row_at {b off n : Nat} {c l : List Value} {t : TypeId} {rw : Bool} {L : Loc} (h : HRel P B w0 ρ H w) (hg : H.get b = .cells c t rw) (hL : ρ[b]? = some L) (hr : rd c off n = some l) :
    ∃ l' : List Value, VL P ρ l l' ∧ l'.length = n ∧ (∀ x ∈ l, oneC x = true) ∧ (∀ x ∈ l', oneC x = true) ∧ ∀ (j : Nat) v, l'[j]? = some v → w.cell? ⟨L.block, L.off + off + j, none⟩ = some v := by
  obtain ⟨_, arr, tw, fr, h2, hsz, hle, h5, _⟩ := cells_inv h hg hL
  obtain ⟨h1, rfl⟩ := rd_some hr
  have hget : ∀ (i : Nat) x, ((c.drop off).take n)[i]? = some x → i < n ∧ c[off + i]? = some x := by
    intro i x hx
    rw [List.getElem?_take] at hx
    split at hx
    · rw [List.getElem?_drop] at hx; exact ⟨by assumption, hx⟩
    · cases hx
  have hlen : ((arr.toList.drop (L.off + off)).take n).length = n := by
    simp only [List.length_take, List.length_drop, Array.length_toList]; omega
  refine ⟨(arr.toList.drop (L.off + off)).take n, ⟨by rw [hlen]; simp; omega, ?_⟩, hlen, ?_, ?_, ?_⟩
  · intro i x y hx hy
    obtain ⟨hin, hx⟩ := hget i x hx
    rw [List.getElem?_take, if_pos hin, List.getElem?_drop] at hy
    obtain ⟨_, y', hy', hv⟩ := h5 _ x hx
    have : arr.toList[L.off + off + i]? = arr[L.off + (off + i)]? := by simp [Nat.add_assoc]
    rw [this, hy'] at hy; cases hy; exact hv
  · intro x hx
    obtain ⟨i, hi⟩ := List.mem_iff_getElem?.1 hx
    exact (h5 _ x (hget i x hi).2).1
  · intro y hy
    obtain ⟨i, hi⟩ := List.mem_iff_getElem?.1 hy
    have hin : i < n := by have := (List.getElem?_eq_some_iff.1 hi).1; omega
    have hc : off + i < c.length := by omega
    obtain ⟨ho, y', hy', hv⟩ := h5 (off + i) c[off + i] (List.getElem?_eq_getElem hc)
    rw [List.getElem?_take, if_pos hin, List.getElem?_drop] at hi
    have : arr.toList[L.off + off + i]? = arr[L.off + (off + i)]? := by simp [Nat.add_assoc]
    rw [this, hy'] at hi; cases hi
    rw [hv.oneC_eq]; exact ho
  · intro j v hv
    rw [List.getElem?_take] at hv
    split at hv
    · rw [List.getElem?_drop] at hv
      simp only [World.cell?, h2]
      simpa using hv
    · cases hv

/- LOAD -/
theorem ld_run {t : TypeId} {d : TypeDesc} (hd : P.underlying t = some d) (hna : isAggD d = false)
    {x x' v : Value} (h : HRel P B w0 ρ H w) (hx : VRel P ρ x x') (hk : kLd H x = some v) : ∃ b v', x' = .pointer (some b) ∧ (loadVar t b).run P w = .ok v' w ∧ VRel P ρ v v' := by
  unfold kLd at hk
  split at hk
  · rename_i a
    obtain ⟨L, hs, hL, rfl⟩ := hx.pointer_inv
    split at hk
    · rename_i c t' rw hg
      obtain ⟨_, y, hy, hv⟩ := cell_at h hg hL hk
      refine ⟨_, y, rfl, ?_, hv⟩
      cases d <;> simp_all [isAggD, loadVar, isAgg, run_underlying hd]
    · cases hk
  · cases hk
theorem ld_ok {t : TypeId} {d : TypeDesc} (hd : P.underlying t = some d) (hna : isAggD d = false)
    {x x' v : Value} (h : HRel P B w0 ρ H w) (hx : VRel P ρ x x') (hk : kLd H x = some v) : Gives P B w0 ρ (Instr.loadAt t x') w v H := by
  obtain ⟨b, v', rfl, hr, hv⟩ := ld_run hd hna h hx hk
  exact Gives.same h (by simp [Instr.loadAt, Instr.sureAddr, hr]) hv

theorem run_loadVar_agg {t : TypeId} {d : TypeDesc} {i : TypeInfo} (hd : P.underlying t = some d) (ha : isAggD d = true) (hi : P.info? t = some i)
    (a : Addr) (l : List Value) (hl : l.length = i.size) (h : ∀ (j : Nat) v, l[j]? = some v → w.cell? (a.add j) = some v) : (loadVar t a).run P w = .ok (.agg l.toArray) w := by
  have := run_loadCells_list (P := P) w a l h
  rw [hl] at this
  cases d <;> simp_all [isAggD, loadVar, isAgg, run_underlying hd, sizeOf, typeInfo]

theorem ldn_run {t : TypeId} {d : TypeDesc} {i : TypeInfo} (hd : P.underlying t = some d) (ha : isAggD d = true) (hi : P.info? t = some i)
    {x x' v : Value} (h : HRel P B w0 ρ H w) (hx : VRel P ρ x x') (hk : kLdn H i.size x = some v) : ∃ b v', x' = .pointer (some b) ∧ (loadVar t b).run P w = .ok v' w ∧ VRel P ρ v v' := by
  unfold kLdn at hk
  split at hk
  · rename_i a
    obtain ⟨L, hs, hL, rfl⟩ := hx.pointer_inv
    split at hk
    · rename_i c t' rw hg
      cases hr : rd c a.off i.size with
      | none => simp [hr] at hk
      | some l =>
        simp [hr] at hk; subst hk
        obtain ⟨l', hv, hl', ho, _, hc⟩ := row_at h hg hL hr
        have := run_loadVar_agg (w := w) hd ha hi ⟨L.block, L.off + a.off, none⟩ l' hl' (fun j v hj => by rw [Addr.add_lit]; exact hc j v hj)
        exact ⟨_, .agg l'.toArray, rfl, this, .agg (by simp [hv.1]) (fun j x y hx hy => hv.2 j x y (by simpa using hx) (by simpa using hy)) (fun j x hx => ho x (List.mem_of_getElem? (by simpa using hx)))⟩
    · cases hk
  · cases hk
theorem ldn_ok {t : TypeId} {d : TypeDesc} {i : TypeInfo} (hd : P.underlying t = some d) (ha : isAggD d = true) (hi : P.info? t = some i)
    {x x' v : Value} (h : HRel P B w0 ρ H w) (hx : VRel P ρ x x') (hk : kLdn H i.size x = some v) : Gives P B w0 ρ (Instr.loadAt t x') w v H := by
  obtain ⟨b, v', rfl, hr, hv⟩ := ldn_run hd ha hi h hx hk
  exact Gives.same h (by simp [Instr.loadAt, Instr.sureAddr, hr]) hv

/- STORE -/
theorem run_storeRow (g o : Nat) (t : TypeId) (fr : Nat × Nat) : ∀ (vs : List Value) (i : Nat) (cur : Array Value) (w : World), w.heap[g]? = some (.cells cur t fr) → o + i + vs.length ≤ cur.size →
    (∀ v ∈ vs, oneC v = true) → (∀ j, j < cur.size → (decide (fr.1 ≤ j) && decide (j < fr.2)) = false) →
    (storeCells ⟨g, o, none⟩ vs i).run P w = .ok () (w.setRow g (cur.toList.take (o + i) ++ vs ++ cur.toList.drop (o + i + vs.length)).toArray)
  | [], i, cur, w, hg, _, _, _ => by
    simp only [storeCells, List.append_nil, List.length_nil, Nat.add_zero, List.take_append_drop, Array.toArray_toList]
    rw [setRow_self w g cur t fr hg]
    rfl
  | v :: rest, i, cur, w, hg, hl, h1, hf => by
    have hi : o + i < cur.size := by simp at hl; omega
    have hadd : (⟨g, o, none⟩ : Addr).add i = ⟨g, o + i, none⟩ := by unfold Addr.add; split <;> simp_all
    have hcell : w.cell? ⟨g, o + i, none⟩ = some cur[o + i] := by simp [World.cell?, hg, hi]
    have hfro : w.frozen? ⟨g, o + i, none⟩ = false := by
      obtain ⟨lo, hi'⟩ := fr
      simpa [World.frozen?, hg] using hf (o + i) hi
    have hst : (store ((⟨g, o, none⟩ : Addr).add i) v).run P w = .ok () (w.setRow g (cur.setIfInBounds (o + i) v)) := by
      rw [hadd, run_store P w _ v _ (by rw [oneC_eq]; exact h1 v (by simp)), hcell]
      simp [hfro, setCell_eq_setRow w g (o + i) cur t fr v hg]
    have ih := run_storeRow g o t fr rest (i + 1) (cur.setIfInBounds (o + i) v) (w.setRow g (cur.setIfInBounds (o + i) v)) (setRow_heap w g cur _ t _ hg) (by simp at hl ⊢; omega) (fun x hx => h1 x (by simp [hx])) (by simpa using hf)
    simp only [storeCells, Sem.run_bind, hst, Result.andThen_ok, ih, setRow_setRow]
    congr 3
    have e := list_seg_step cur.toList (o + i) v rest (by simp at hl ⊢; omega)
    simpa [Array.toList_setIfInBounds, Nat.add_assoc] using e

theorem Bel.setRow {B : Fz} {w : World} {g : Nat} (hg : ¬ B.fr g) (hg2 : ¬ B.gh g) (cs : Array Value) : Bel B w (w.setRow g cs) :=
  ⟨rfl, rfl, rfl, by simp, fun k hk => setRow_other w g k cs (fun e => by subst e; exact hk.elim hg hg2)⟩

theorem wr_length {c vs : List Value} {off : Nat} (h : off + vs.length ≤ c.length) : (wr c off vs).length = c.length := by
  simp [wr]; omega
theorem wr_get {c vs : List Value} {off : Nat} (h : off + vs.length ≤ c.length) (i : Nat) : (wr c off vs)[i]? = if off ≤ i ∧ i < off + vs.length then vs[i - off]? else c[i]? := by
  unfold wr
  rcases Nat.lt_or_ge i off with h1 | h1
  · rw [if_neg (by omega), List.append_assoc, List.getElem?_append_left (by simp; omega), List.getElem?_take, if_pos h1]
  · rcases Nat.lt_or_ge i (off + vs.length) with h2 | h2
    · rw [if_pos ⟨h1, h2⟩, List.getElem?_append_left (by simp; omega), List.getElem?_append_right (by simp; omega)]
      congr 1; simp; omega
    · rw [if_neg (by omega), List.getElem?_append_right (by simp; omega), List.getElem?_drop]
      congr 1; simp; omega

/-- cells of a block of one's own are written -/
theorem store_row {b off : Nat} {c vs vs' : List Value} {t : TypeId} {L : Loc} (h : HRel P B w0 ρ H w) (hg : H.get b = .cells c t true) (hL : ρ[b]? = some L)
    (hfit : off + vs.length ≤ c.length) (hv : VL P ρ vs vs') (ho : ∀ x ∈ vs, oneC x = true) :
    ∃ w', (storeCells ⟨L.block, L.off + off, none⟩ vs').run P w = .ok () w' ∧ HRel P B w0 ρ (H.put b (.cells (wr c off vs) t true)) w' := by
  obtain ⟨he, arr, tw, fr, h2, hsz, hle, h5, h6⟩ := cells_inv h hg hL
  have ho' : ∀ y ∈ vs', oneC y = true := by
    intro y hy
    obtain ⟨i, hi⟩ := List.mem_iff_getElem?.1 hy
    have hlt : i < vs.length := by rw [hv.1]; exact (List.getElem?_eq_some_iff.1 hi).1
    rw [(hv.2 i _ y (List.getElem?_eq_getElem hlt) hi).oneC_eq]; exact ho _ (List.getElem_mem hlt)
  have hrun := run_storeRow (P := P) L.block (L.off + off) tw fr vs' 0 arr w h2 (by rw [← hv.1]; omega) ho' (h6 rfl)
  refine ⟨_, hrun, h.put (b := b) (by rw [hg]; rfl) hL ?_ (Bel.setRow (h.own b L hL (by rw [hg]; rfl)) (h.ghost b L hL (by rw [hg]; rfl)) _) (fun i hi => setRow_other w _ _ _ hi)⟩
  have hsz' : (arr.toList.take (L.off + off + 0) ++ vs' ++ arr.toList.drop (L.off + off + 0 + vs'.length)).length = arr.size := by
    simp only [List.length_append, List.length_take, List.length_drop, Array.length_toList, ← hv.1]; omega
  refine ⟨he, _, tw, fr, setRow_heap w _ arr _ tw fr h2, by simpa [hsz] using hsz', by rw [wr_length hfit]; simpa using (by rw [← hsz'] at hle; simpa using hle), ?_, fun _ i hi => h6 rfl i (by simpa [hsz'] using (by rw [← hsz']; simpa using hi))⟩
  intro i x hx
  have hwr := wr_get (c := arr.toList) (vs := vs') (off := L.off + off) (by rw [← hv.1]; simp; omega) (L.off + i)
  rw [wr_get hfit] at hx
  have hy : ((arr.toList.take (L.off + off + 0) ++ vs' ++ arr.toList.drop (L.off + off + 0 + vs'.length)).toArray)[L.off + i]? = (wr arr.toList (L.off + off) vs')[L.off + i]? := by simp [wr]
  rw [hy, hwr]
  split at hx
  · rename_i hin
    rw [if_pos (by rw [← hv.1]; omega)]
    have hlt : i - off < vs'.length := by rw [← hv.1]; omega
    refine ⟨ho x (List.mem_of_getElem? hx), vs'[i - off], ?_, hv.2 (i - off) x _ hx (List.getElem?_eq_getElem hlt)⟩
    rw [← List.getElem?_eq_getElem hlt]; congr 1; omega
  · rename_i hin
    rw [if_neg (by rw [← hv.1]; omega)]
    obtain ⟨ho1, y, hy, hvv⟩ := h5 i x hx
    exact ⟨ho1, y, by simpa using hy, hvv⟩

theorem wr_one {c : List Value} {off : Nat} {v : Value} (h : off < c.length) : wr c off [v] = c.set off v := by
  apply List.ext_getElem?
  intro i
  rw [wr_get (by simp; omega), List.getElem?_set]
  by_cases hi : off = i
  · subst hi; simp [h]
  · rw [if_neg (by simp; omega), if_neg hi]

theorem st_ok {t : TypeId} {i : TypeInfo} (hi : P.info? t = some i) (h1 : i.size = 1) {x x' y y' : Value} (h : HRel P B w0 ρ H w) (hx : VRel P ρ x x') (hy : VRel P ρ y y') {H' : Heap}
    (hk : kSt H x y = some H') : GivesU P B w0 ρ (Instr.storeAt t x' y') w H' := by
  unfold kSt at hk
  split at hk
  · rename_i a
    obtain ⟨L, hs, hL, rfl⟩ := hx.pointer_inv
    split at hk
    · rename_i c t' hg
      split at hk
      · rename_i hc
        simp only [Bool.and_eq_true, decide_eq_true_eq] at hc
        cases hk
        obtain ⟨w', hrun, hH⟩ := store_row (vs := [y]) (vs' := [y']) h hg hL (off := a.off) (by simp; omega) (VL.cons hy VL.nil) (by simpa using hc.2)
        have ho : oneC y' = true := by rw [hy.oneC_eq]; exact hc.2
        have hcells : y'.cells = #[y'] := by cases y' <;> simp_all [Value.cells, oneC]
        refine ⟨ρ, w', ?_, List.prefix_refl _, by rw [← wr_one hc.1]; exact hH⟩
        simp [Instr.storeAt, Instr.sureAddr, storeVar, sizeOf, typeInfo, hi, h1, hcells, hrun]
      · cases hk
    · cases hk
  · cases hk

theorem stn_ok {t : TypeId} {i : TypeInfo} (hi : P.info? t = some i) {x x' y y' : Value} (h : HRel P B w0 ρ H w) (hx : VRel P ρ x x') (hy : VRel P ρ y y') {H' : Heap}
    (hk : kStn H i.size x y = some H') : GivesU P B w0 ρ (Instr.storeAt t x' y') w H' := by
  unfold kStn at hk
  split at hk
  · rename_i a vs
    obtain ⟨L, hs, hL, rfl⟩ := hx.pointer_inv
    split at hk
    · rename_i c t' hg
      split at hk
      · rename_i hc
        simp only [Bool.and_eq_true, decide_eq_true_eq, beq_iff_eq] at hc
        cases hk
        cases hy with
        | agg hsz hv ho =>
          rename_i ys
          obtain ⟨w', hrun, hH⟩ := store_row (vs := vs.toList) (vs' := ys.toList) h hg hL (off := a.off) (by simp; omega) (VL.arr hsz hv)
            (fun x hx => by obtain ⟨j, hj⟩ := List.mem_iff_getElem?.1 hx; exact ho j x (by simpa using hj))
          refine ⟨ρ, w', ?_, List.prefix_refl _, hH⟩
          have : ys.size = i.size := by omega
          simp [Instr.storeAt, Instr.sureAddr, storeVar, sizeOf, typeInfo, hi, Value.cells, this, hrun]
      · cases hk
    · cases hk
  · cases hk

/- NEW BLOCKS -/
theorem new_row (h : HRel P B w0 ρ H w) {l l' : List Value} {t t2 : TypeId} {rw : Bool} (hv : VL P ρ l l') (ho : ∀ x ∈ l, oneC x = true) (more : List Value) :
    HRel P B w0 (ρ ++ [⟨w.heap.size, 0, l'.length + more.length, t⟩]) (H.push (.cells l t rw)) (w.alloc (.cells (l' ++ more).toArray t2)) := by
  refine h.push rfl ⟨rfl, _, t2, (0, 0), heap_alloc_new w _, by simp, by simp [hv.1], ?_, fun _ i _ => by simp⟩
  intro i x hx
  obtain ⟨y, hy, hvv⟩ := hv.get hx
  refine ⟨ho x (List.mem_of_getElem? hx), y, ?_, hvv.mono (List.prefix_append _ _)⟩
  have hlt : i < l'.length := (List.getElem?_eq_some_iff.1 hy).1
  simp [List.getElem?_append_left hlt, hy]

theorem new_last (h : HRel P B w0 ρ H w) (L : Loc) : (ρ ++ [L])[H.next]? = some L := by
  rw [Heap.next, ← h.len]; simp

theorem VRel.ground {v : Value} (hv : VRel P [] v v) : VRel P ρ v v := hv.mono (List.nil_prefix)

theorem VRel.cellsL {v v' : Value} (hv : VRel P ρ v v') (ht : isTup v = false) : VL P ρ (cellsL v) (cellsL v') ∧ (∀ x ∈ cellsL v, oneC x = true) ∧ v'.cells.toList = cellsL v' := by
  cases hv with
  | agg hs h ho => exact ⟨VL.arr hs h, fun x hx => by obtain ⟨j, hj⟩ := List.mem_iff_getElem?.1 hx; exact ho j x (by simpa [K.cellsL] using hj), rfl⟩
  | tuple => cases ht
  | bool b => exact ⟨VL.cons (.bool b) VL.nil, by simp [K.cellsL, oneC], rfl⟩
  | int k n => exact ⟨VL.cons (.int k n) VL.nil, by simp [K.cellsL, oneC], rfl⟩
  | string s => exact ⟨VL.cons (.string s) VL.nil, by simp [K.cellsL, oneC], rfl⟩
  | pnil => exact ⟨VL.cons .pnil VL.nil, by simp [K.cellsL, oneC], rfl⟩
  | ptr hb => exact ⟨VL.cons (.ptr hb) VL.nil, by simp [K.cellsL, oneC], rfl⟩
  | snil => exact ⟨VL.cons .snil VL.nil, by simp [K.cellsL, oneC], rfl⟩
  | sl a b c d => exact ⟨VL.cons (.sl a b c d) VL.nil, by simp [K.cellsL, oneC], rfl⟩
  | sl0 => exact ⟨VL.cons .sl0 VL.nil, by simp [K.cellsL, oneC], rfl⟩
  | mnil => exact ⟨VL.cons .mnil VL.nil, by simp [K.cellsL, oneC], rfl⟩
  | map hb => exact ⟨VL.cons (.map hb) VL.nil, by simp [K.cellsL, oneC], rfl⟩
  | func f a b c d => exact ⟨VL.cons (.func f a b c d) VL.nil, by simp [K.cellsL, oneC], rfl⟩
  | nilFunc => exact ⟨VL.cons .nilFunc VL.nil, by simp [K.cellsL, oneC], rfl⟩
  | nilIface => exact ⟨VL.cons .nilIface VL.nil, by simp [K.cellsL, oneC], rfl⟩
  | iface t h => exact ⟨VL.cons (.iface t h) VL.nil, by simp [K.cellsL, oneC], rfl⟩

theorem newVar_ok (h : HRel P B w0 ρ H w) {t t2 : TypeId} {l l' : List Value} (hv : VL P ρ l l') (ho : ∀ x ∈ l, oneC x = true) :
    ∃ L, HRel P B w0 (ρ ++ [L]) (H.push (.cells l t true)) (w.alloc (.cells l'.toArray t2)) ∧ L.block = w.heap.size ∧ L.off = 0 ∧ L.elem = t ∧ L.size = l'.length := by
  have := new_row (rw := true) (t := t) (t2 := t2) h hv ho []
  simp only [List.append_nil] at this
  exact ⟨_, this, rfl, rfl, rfl, rfl⟩

theorem box_ok {t t1 : TypeId} {x x' : Value} (h : HRel P B w0 ρ H w) (hx : VRel P ρ x x') (ht : isTup x = false) :
    Gives P B w0 ρ (Instr.box t x') w (.pointer (some ⟨H.next, 0, none⟩)) (H.push (.cells (cellsL x) t1 true)) := by
  obtain ⟨hv, ho, hc⟩ := hx.cellsL ht
  obtain ⟨L, hH, hb, hoff, _⟩ := newVar_ok (t := t1) (t2 := t) h hv ho
  refine ⟨ρ ++ [L], .pointer (some ⟨w.heap.size, 0, none⟩), _, ?_, List.prefix_append _ _, ?_, hH⟩
  · have : x'.cells = (cellsL x').toArray := by rw [← hc]
    simp [Instr.box, newVar, newRow, newObj, this, Sem.run]
  · have := VRel.ptr (P := P) (off := 0) (new_last h L)
    rw [hb, hoff] at this; exact this

theorem alloc_ok {t t1 : TypeId} {i : TypeInfo} {z : Value} (hi : P.info? t = some i) (hz : i.zero = some z) (hg : VL P [] z.cells.toList z.cells.toList) (hoz : ∀ x ∈ z.cells.toList, oneC x = true) (h : HRel P B w0 ρ H w) :
    Gives P B w0 ρ (Instr.alloc t true (.tuple #[])) w (.pointer (some ⟨H.next, 0, none⟩)) (H.push (.cells z.cells.toList t1 true)) := by
  obtain ⟨L, hH, hb, hoff, _⟩ := newVar_ok (t := t1) (t2 := t) h (hg.mono List.nil_prefix) hoz
  refine ⟨ρ ++ [L], .pointer (some ⟨w.heap.size, 0, none⟩), _, ?_, List.prefix_append _ _, ?_, hH⟩
  · simp [Instr.alloc, zeroValue, typeInfo, hi, hz, newVar, newRow, newObj, Sem.run]
  · have := VRel.ptr (P := P) (off := 0) (new_last h L)
    rw [hb, hoff] at this; exact this

end
end Go.Proofs.YtjgpbhodbgjggaaGreat.K
/- More of K's operations on memory: build, slices built and made, append, copy, bytes and strings, cuts. -/
set_option linter.unusedVariables false
set_option linter.unusedSimpArgs false
namespace Go.Proofs.YtjgpbhodbgjggaaGreat.K
open Go Go.RowKit

section
variable {P : Program} {B : Fz} {w0 w : World} {ρ : Rho} {H : Heap}

/- BUILD -/
theorem fill_set (off : Nat) : ∀ (l : List Value) (k : Nat) (cells : Array Value), off + k + l.length ≤ cells.size →
    ((l.zipIdx k).foldl (fun (cs : Array Value) (p : Value × Nat) => cs.setIfInBounds (off + p.2) p.1) cells).toList = wr cells.toList (off + k) l
  | [], k, cells, _ => by simp [wr]
  | v :: l, k, cells, h => by
    simp only [List.zipIdx_cons, List.foldl_cons]
    have h' : off + k + (l.length + 1) ≤ cells.size := by simpa using h
    rw [fill_set off l (k + 1) _ (by simp; omega)]
    have e := list_seg_step cells.toList (off + k) v l (by simp; omega)
    simp only [wr, Array.toList_setIfInBounds, List.length_cons] at e ⊢
    rw [show off + (k + 1) = off + k + 1 by omega]
    exact e

theorem kFill_some {z : List Value} {off n : Nat} {v : Value} {ps : List (Nat × Nat × Value)} {c : List Value} (h : kFill z ((off, n, v) :: ps) = some c) :
    isTup v = false ∧ (cellsL v).length = n ∧ off + n ≤ z.length ∧ kFill (wr z off (cellsL v)) ps = some c := by
  simp only [kFill] at h
  split at h
  · rename_i hc
    simp only [Bool.and_eq_true, Bool.not_eq_true', beq_iff_eq, decide_eq_true_eq] at hc
    exact ⟨hc.1.1, hc.1.2, hc.2, h⟩
  · cases h

theorem fill_ok (place : Nat → Option (Nat × Nat)) : ∀ (ps : List (Nat × Nat × Value)) (parts : List (Nat × Value)) (z : List Value) (z' : Array Value) (c : List Value),
    ps.length = parts.length → (∀ (j : Nat) p q, ps[j]? = some p → parts[j]? = some q → place q.1 = some (p.1, p.2.1) ∧ VRel P ρ p.2.2 q.2) → VL P ρ z z'.toList → (∀ x ∈ z, oneC x = true) →
    kFill z ps = some c → ∃ c', Instr.fill place z' parts = some c' ∧ VL P ρ c c'.toList ∧ ∀ x ∈ c, oneC x = true
  | [], [], z, z', c, _, _, hv, ho, hk => by
    simp [kFill] at hk; subst hk
    exact ⟨z', rfl, hv, ho⟩
  | [], _ :: _, _, _, _, hl, _, _, _, _ => by simp at hl
  | _ :: _, [], _, _, _, hl, _, _, _, _ => by simp at hl
  | (off, n, v) :: ps, (i, v') :: parts, z, z', c, hl, hrel, hv, ho, hk => by
    obtain ⟨ht, hlen, hfit, hk'⟩ := kFill_some hk
    obtain ⟨hp, hvv⟩ := hrel 0 _ _ rfl rfl
    simp only at hp hvv
    obtain ⟨hc, hoc, hce⟩ := hvv.cellsL ht
    have hsz : v'.cells.size = n := by rw [← Array.length_toList, hce, ← hc.1, hlen]
    have hzs : z'.size = z.length := by rw [← Array.length_toList, hv.1]
    have e : (v'.cells.zipIdx.foldl (fun (cs : Array Value) (p : Value × Nat) => cs.setIfInBounds (off + p.2) p.1) z').toList = wr z'.toList off (K.cellsL v') := by
      rw [← Array.foldl_toList, Array.toList_zipIdx, hce]
      have := fill_set off (K.cellsL v') 0 z' (by rw [← hc.1, hlen]; omega)
      simpa using this
    have hwl : VL P ρ (wr z off (K.cellsL v)) (wr z'.toList off (K.cellsL v')) := by
      unfold wr
      rw [hc.1]
      exact ((hv.take off).append hc).append (hv.drop _)
    have hwo : ∀ x ∈ wr z off (K.cellsL v), oneC x = true := by
      intro x hx
      simp only [wr, List.mem_append] at hx
      rcases hx with (hx | hx) | hx
      · exact ho x (List.mem_of_mem_take hx)
      · exact hoc x hx
      · exact ho x (List.mem_of_mem_drop hx)
    have ih := fill_ok place ps parts (wr z off (K.cellsL v)) (v'.cells.zipIdx.foldl (fun (cs : Array Value) (p : Value × Nat) => cs.setIfInBounds (off + p.2) p.1) z') c (by simpa using hl)
      (fun j p q hp hq => hrel (j + 1) p q (by simpa using hp) (by simpa using hq)) (by rw [e]; exact hwl) hwo hk'
    obtain ⟨c', hf, h1, h2⟩ := ih
    refine ⟨c', ?_, h1, h2⟩
    simp only [Instr.fill, hp]
    split
    · rename_i hc; simp [hsz, hzs] at hc; omega
    · exact hf

theorem agg_of {c c' : List Value} (h : VL P ρ c c') (ho : ∀ x ∈ c, oneC x = true) : VRel P ρ (.agg c.toArray) (.agg c'.toArray) :=
  .agg (by simp [h.1]) (fun j x y hx hy => h.2 j x y (by simpa using hx) (by simpa using hy)) (fun j x hx => ho x (List.mem_of_getElem? (by simpa using hx)))

/- A SLICE OF ONE'S OWN -/
theorem sl_new (h : HRel P B w0 ρ H w) {L : Loc} {n c c' : Nat} (hn : n ≤ c') (hc : c' = c ∨ c = capx) (h0 : L.off = 0) (hs : c' * P.cellsOf L.elem ≤ L.size) :
    VRel P (ρ ++ [L]) (.slice (some ⟨H.next, 0, none⟩) n c) (.slice (some ⟨L.block, 0, none⟩) n c') := by
  have := VRel.sl (P := P) (off := 0) (new_last h L) hn hc (by rw [h0]; simpa using hs)
  rw [h0] at this; exact this

theorem bsl_ok {t e : TypeId} {i : TypeInfo} {len : Nat} {ps : List (Nat × Nat × Value)} {parts : Array (Nat × Value)} {z c : List Value} {zv : Array Value}
    (ht : P.underlying t = some (.slice e)) (hi : P.info? e = some i) (hlim : len * i.size ≤ 16777216)
    (hz : (if len * i.size = 0 then zv = #[] else ∃ zz, i.zero = some zz ∧ zv = zz.cells))
    (hze : z = ((Array.range (len * i.size)).map (zv[· % zv.size]!)).toList) (hg : VL P [] z z) (hoz : ∀ x ∈ z, oneC x = true)
    (h : HRel P B w0 ρ H w) (hl : ps.length = parts.size) (hrel : ∀ (j : Nat) p q, ps[j]? = some p → parts[j]? = some q → (p.1, p.2.1) = (q.1 * i.size, i.size) ∧ VRel P ρ p.2.2 q.2)
    (hk : kFill z ps = some c) :
    Gives P B w0 ρ (Instr.buildSlice t len parts) w (.slice (some ⟨H.next, 0, none⟩) len len) (H.push (.cells c e true)) := by
  have hkl : ∀ (ps : List (Nat × Nat × Value)) (z c : List Value), kFill z ps = some c → c.length = z.length := by
    intro ps
    induction ps with
    | nil => intro z c h; simp [kFill] at h; rw [h]
    | cons p ps ih =>
      intro z c h
      obtain ⟨a, b, v⟩ := p
      obtain ⟨_, h2, h3, h4⟩ := kFill_some h
      rw [ih _ _ h4, wr_length (by omega)]
  obtain ⟨c', hf, hv, ho⟩ := fill_ok (P := P) (ρ := ρ) (fun j => some (j * i.size, i.size)) ps parts.toList z ((Array.range (len * i.size)).map (zv[· % zv.size]!)) c (by simpa using hl)
    (fun j p q hp hq => by obtain ⟨h1, h2⟩ := hrel j p q hp (by simpa using hq); exact ⟨by rw [h1], h2⟩) (by rw [← hze]; exact hg.mono List.nil_prefix) hoz hk
  obtain ⟨L, hH, hb, hoff, he, hs⟩ := newVar_ok (t := e) (t2 := e) h hv ho
  have hlen : c'.size = len * i.size := by
    rw [← Array.length_toList, ← hv.1, hkl ps z c hk, hze]; simp
  refine ⟨ρ ++ [L], .slice (some ⟨w.heap.size, 0, none⟩) len len, _, ?_, List.prefix_append _ _, ?_, hH⟩
  · have hnl : ¬ (2 ^ 24 < len * i.size) := by omega
    by_cases h0 : len * i.size = 0
    · rw [if_pos h0] at hz
      subst hz
      simp only [h0] at hf
      have hf' : Instr.fill (fun j => some (j * i.size, i.size)) #[] parts.toList = some c' := by simpa [Array.range_zero'] using hf
      simp [Instr.buildSlice, run_underlying ht, sizeOf, typeInfo, hi, h0, hf', newRow, newObj, Sem.run, Array.range_zero']
    · rw [if_neg h0] at hz
      obtain ⟨zz, hzz, rfl⟩ := hz
      have hnl' : ¬ (16777216 < len * i.size) := by omega
      simp [Instr.buildSlice, run_underlying ht, sizeOf, typeInfo, zeroValue, hi, hzz, h0, hnl', hf, newRow, newObj, Sem.run]
  · rw [← hb]
    exact sl_new h (Nat.le_refl _) (.inl rfl) hoff (by rw [hs, he]; simp [Program.cellsOf, hi, hlen])

theorem madeCells_zeros (z : Array Value) (n : Nat) : (madeCells z (n * z.size)).toList = zeros z.toList n := by
  induction n with
  | zero => simp [madeCells, zeros]
  | succ n ih =>
    have e : (madeCells z ((n + 1) * z.size)).toList = (madeCells z (n * z.size)).toList ++ z.toList := by
      apply List.ext_getElem?
      intro j
      have hs : (madeCells z (n * z.size)).toList.length = n * z.size := by simp [madeCells]
      have hmul : (n + 1) * z.size = n * z.size + z.size := by rw [Nat.add_mul]; simp
      rcases Nat.lt_or_ge j (n * z.size) with h | h
      · rw [List.getElem?_append_left (by rw [hs]; exact h)]
        simp [madeCells, h, (by omega : j < (n + 1) * z.size)]
      · rw [List.getElem?_append_right (by rw [hs]; exact h), hs]
        rcases Nat.lt_or_ge j ((n + 1) * z.size) with h2 | h2
        · have hm : j % z.size = j - n * z.size := by
            have hc : n * z.size = z.size * n := Nat.mul_comm _ _
            have : j = (j - n * z.size) + z.size * n := by omega
            rw [this, Nat.add_mul_mod_self_left, Nat.mod_eq_of_lt (by omega)]; omega
          have hlt : j - n * z.size < z.size := by omega
          simp [madeCells, h2, hm, hlt]
        · rw [List.getElem?_eq_none (by simp [madeCells]; omega), List.getElem?_eq_none (by simp; omega)]
    rw [e, ih]
    simp [zeros, List.replicate_succ', List.flatten_append]

theorem zeros_length (z : List Value) (n : Nat) : (zeros z n).length = n * z.length := by
  induction n with
  | zero => simp [zeros]
  | succ n ih => simp only [zeros, List.replicate_succ', List.flatten_append, List.length_append] at ih ⊢; rw [ih, Nat.add_mul]; simp

theorem VL.zeros {z z' : List Value} (h : VL P ρ z z') (n : Nat) : VL P ρ (K.zeros z n) (K.zeros z' n) := by
  induction n with
  | zero => exact VL.nil
  | succ n ih => simp only [K.zeros, List.replicate_succ', List.flatten_append] at ih ⊢; exact ih.append (by simpa using h)
theorem oneC_zeros {z : List Value} (h : ∀ x ∈ z, oneC x = true) (n : Nat) : ∀ x ∈ zeros z n, oneC x = true := by
  intro x hx
  simp only [zeros, List.mem_flatten, List.mem_replicate] at hx
  obtain ⟨l, ⟨_, rfl⟩, hx⟩ := hx
  exact h x hx

theorem mks_ok {t e : TypeId} {i : TypeInfo} {z : Value} (ht : P.underlying t = some (.slice e)) (hi : P.info? e = some i) (hz : i.zero = some z) (hzs : z.cells.size = i.size)
    (hg : VL P [] z.cells.toList z.cells.toList) (hoz : ∀ x ∈ z.cells.toList, oneC x = true) (h : HRel P B w0 ρ H w) {l l' c c' v : Value} {H' : Heap} (hl : VRel P ρ l l') (hc : VRel P ρ c c')
    (hk : kMks H e z.cells.toList i.bytes l c = some (v, H')) : Gives P B w0 ρ (Instr.makeSlice t l' c') w v H' := by
  unfold kMks at hk
  split at hk
  · rename_i kl l kc c
    cases hl; cases hc
    split at hk
    · rename_i hcond
      obtain ⟨h0, hlc, h63, hb⟩ := hcond
      simp only [Option.some.injEq, Prod.mk.injEq] at hk
      obtain ⟨rfl, rfl⟩ := hk
      have hr := run_make (P := P) w t e i z ht hi hz kl kc l c h0 hlc hb h63
      have hme : (madeCells z.cells (c.toNat * i.size)).toList = zeros z.cells.toList c.toNat := by rw [← hzs]; exact madeCells_zeros _ _
      obtain ⟨L, hH, hbk, hoff, he, hs⟩ := newVar_ok (t := e) (t2 := e) h ((hg.mono (List.nil_prefix (l := ρ))).zeros c.toNat) (oneC_zeros hoz c.toNat)
      rw [← hme, Array.toArray_toList] at hH
      rw [hme] at hH
      refine ⟨ρ ++ [L], _, _, hr, List.prefix_append _ _, ?_, hH⟩
      rw [← hbk]
      exact sl_new h (by omega) (.inl rfl) hoff (by rw [hs, he, zeros_length]; simp [Program.cellsOf, hi, hzs])
    · cases hk
  · cases hk

/- APPEND -/
theorem kRow_inv {t : TypeId} {esz n c : Nat} {a : Option Addr} {x' : Value} {l : List Value} (h : HRel P B w0 ρ H w) (hx : VRel P ρ (.slice a n c) x') (hr : kRow H t esz n a = some l) :
    l.length = n * esz ∧ ∃ a' c', x' = .slice a' n c' ∧ ∃ l', VL P ρ l l' ∧ l'.length = n * esz ∧ (∀ x ∈ l, oneC x = true) ∧
      ((a' = none ∧ n = 0) ∨ ∃ b', a' = some b' ∧ ∀ (j : Nat) v, l'[j]? = some v → w.cell? (b'.add j) = some v) := by
  unfold kRow at hr
  cases hx with
  | snil =>
    simp at hr; subst hr
    exact ⟨by simp, none, 0, rfl, [], VL.nil, by simp, by simp, .inl ⟨rfl, rfl⟩⟩
  | sl hL hn hc hs =>
    simp only at hr
    split at hr
    · rename_i cs t' rw hg
      split at hr
      · obtain ⟨l', hv, hl', ho, _, hcell⟩ := row_at h hg hL hr
        exact ⟨rd_length hr, _, _, rfl, l', hv, hl', ho, .inr ⟨_, rfl, fun j v hj => by rw [Addr.add_lit]; exact hcell j v hj⟩⟩
      · cases hr
    · cases hr
  | sl0 =>
    simp only at hr
    split at hr
    · split at hr
      · have hl := rd_length hr
        have : l = [] := List.eq_nil_of_length_eq_zero (by simpa using hl)
        subst this
        exact ⟨by simp, _, _, rfl, [], VL.nil, by simp, by simp, .inr ⟨_, rfl, fun j v hj => by simp at hj⟩⟩
      · cases hr
    · cases hr

/-- a thing that is appended: a slice, or a string -/
def AppKind (P : Program) (xt : TypeId) : Prop := (∃ e, P.underlying xt = some (.slice e)) ∨ P.underlying xt = some .string

/-- what the model's append does, where what is appended is known cell by cell -/
theorem run_append_room' {t xt ty e : TypeId} {i : TypeInfo} {m : Nat} {x' : Value} {news : List Value} (ht : P.underlying t = some (.slice e)) (hd : AppKind P xt) (hi : P.info? e = some i)
    (hlen : (Builtin.lenOf x').run P w = .ok m w) (hnews : (Builtin.firstCells i.size m x').run P w = .ok news.toArray w) (a : Addr) (n c : Nat) (hroom : n + m ≤ c) {w' : World}
    (hst : (storeCells (a.add (n * i.size)) news).run P w = .ok () w') :
    (Builtin.append_ #[t, xt] ty #[.slice (some a) n c, x']).run P w = .ok (.slice (some a) (n + m) c) w' := by
  rcases hd with ⟨e2, hd⟩ | hd <;> simp [Builtin.append_, run_underlying ht, run_underlying hd, sizeOf, typeInfo, hi, hlen, hroom, hnews, hst]

theorem run_append_none' {t xt ty e : TypeId} {i : TypeInfo} {x' : Value} (ht : P.underlying t = some (.slice e)) (hd : AppKind P xt) (hi : P.info? e = some i)
    (hlen : (Builtin.lenOf x').run P w = .ok 0 w) (hnews : (Builtin.firstCells i.size 0 x').run P w = .ok #[] w) :
    (Builtin.append_ #[t, xt] ty #[.slice none 0 0, x']).run P w = .ok (.slice none 0 0) w := by
  rcases hd with ⟨e2, hd⟩ | hd <;> simp [Builtin.append_, run_underlying ht, run_underlying hd, sizeOf, typeInfo, hi, hlen, hnews]

theorem run_append_grow' {t xt ty e : TypeId} {i : TypeInfo} {z : Value} {m : Nat} {x' : Value} {olds news : List Value} (ht : P.underlying t = some (.slice e)) (hd : AppKind P xt) (hi : P.info? e = some i) (hz : i.zero = some z)
    (hlen : (Builtin.lenOf x').run P w = .ok m w) (hnews : (Builtin.firstCells i.size m x').run P w.drew = .ok news.toArray w.drew) (a : Option Addr) (n c : Nat) (hroom : c < n + m)
    (holds : (Builtin.firstCells i.size n (.slice a n c)).run P w.drew = .ok olds.toArray w.drew) (hb : (n + m) * i.bytes ≤ roomMax) (hm : n + m ≤ roomMax) :
    (Builtin.append_ #[t, xt] ty #[.slice a n c, x']).run P w = .ok (.slice (some ⟨w.heap.size, 0, none⟩) (n + m) (grownCap w (n + m) c e))
      (w.drew.alloc (.cells (olds.toArray ++ news.toArray ++ Builtin.zeroCells z.cells (grownCap w (n + m) c e - (n + m))) e)) := by
  have hn : ¬ (n + m ≤ c) := by omega
  have h63' : ¬ (9223372036854775807 < ((n : Int) + (m : Int))) := by simp only [roomMax] at hm; omega
  have h48' : ¬ (281474976710656 < Builtin.nextslicecap (n + m) c * i.bytes) := by have := growslice_fits hroom (bytes := i.bytes) (by simpa [roomMax] using hb); omega
  rcases hd with ⟨e2, hd⟩ | hd <;>
    (simp [Builtin.append_, run_underlying ht, run_underlying hd, sizeOf, typeInfo, zeroValue, hi, hz, hlen, hn, h63', h48', Question.forced, hnews, holds, newRow, grownCap]
     try (congr 2
          apply Array.ext'
          simp [List.append_assoc]))

theorem own_alone (h : HRel P B w0 ρ H w) {b : Nat} {L : Loc} (hL : ρ[b]? = some L) (ho : (H.get b).own = true) :
    ∀ (b' : Nat) L', ρ[b']? = some L' → ((H.put b .dead).get b').live = true → L'.block ≠ L.block := by
  intro b' L' hb' hl
  rw [Heap.get_put] at hl
  split at hl
  · cases hl
  · rename_i hne
    have hlt : b < H.next := Heap.lt_of_live (own_live ho)
    have hbb : b ≠ b' := fun e => hne ⟨e.symm, hlt⟩
    exact fun e => h.inj b b' L L' hL hb' hbb ho hl e.symm

theorem app_ok {t xt ty e : TypeId} {i : TypeInfo} {z : Value} {m : Nat} {x' s s' v : Value} {news news' : List Value} {H' : Heap} (ht : P.underlying t = some (.slice e)) (hd : AppKind P xt) (hi : P.info? e = some i) (hz : i.zero = some z) (hzs : z.cells.size = i.size) (h : HRel P B w0 ρ H w) (hs : VRel P ρ s s')
    (hlen : ∀ w, (Builtin.lenOf x').run P w = .ok m w) (hnews : (Builtin.firstCells i.size m x').run P w = .ok news'.toArray w) (hnews2 : (Builtin.firstCells i.size m x').run P w.drew = .ok news'.toArray w.drew)
    (hv : VL P ρ news news') (hnl : news.length = m * i.size) (ho : ∀ x ∈ news, oneC x = true) (hk : kApp H e i.size i.bytes s m news = some (v, H')) :
    Gives P B w0 ρ (Builtin.append_ #[t, xt] ty #[s', x']) w v H' := by
  have hcells : P.cellsOf e = i.size := by simp [Program.cellsOf, hi]
  -- a row that is moved: what it is, and how it stands
  have moved : ∀ (H1 : Heap) (olds olds' : List Value) (a : Option Addr) (n c : Nat), HRel P B w0 ρ H1 w → H1.next = H.next → VL P ρ olds olds' → (∀ x ∈ olds, oneC x = true) → olds.length = n * i.size → c < n + m →
      (Builtin.firstCells i.size n (.slice a n c)).run P w.drew = .ok olds'.toArray w.drew → (n + m) * i.bytes ≤ roomMax → n + m ≤ roomMax →
      Gives P B w0 ρ (Builtin.append_ #[t, xt] ty #[.slice a n c, x']) w (.slice (some ⟨H.next, 0, none⟩) (n + m) capx) (H1.push (.cells (olds ++ news) e true)) := by
    intro H1 olds olds' a n c h1 hn1 hvo hoo hol hroom holds hb hm
    have hr := run_append_grow' (ty := ty) (olds := olds') (news := news') ht hd hi hz (hlen w) hnews2 a n c hroom holds hb hm
    have hge := grownCap_ge w (n + m) c e
    have e1 : olds'.toArray ++ news'.toArray ++ Builtin.zeroCells z.cells (grownCap w (n + m) c e - (n + m)) = ((olds' ++ news') ++ (Builtin.zeroCells z.cells (grownCap w (n + m) c e - (n + m))).toList).toArray := by simp
    rw [e1] at hr
    have hlt : (olds' ++ news').length = (n + m) * i.size := by rw [List.length_append, ← hvo.1, ← hv.1, hol, hnl, Nat.add_mul]
    have hH := new_row (rw := true) (t := e) (t2 := e) h1.drew (hvo.append hv) (fun x hx => (List.mem_append.1 hx).elim (hoo x) (ho x)) (Builtin.zeroCells z.cells (grownCap w (n + m) c e - (n + m))).toList
    refine ⟨_, _, _, hr, List.prefix_append _ _, ?_, hH⟩
    have := sl_new (L := ⟨w.drew.heap.size, 0, (olds' ++ news').length + (Builtin.zeroCells z.cells (grownCap w (n + m) c e - (n + m))).toList.length, e⟩) h1.drew (n := n + m) (c := capx) (c' := grownCap w (n + m) c e) hge (.inr rfl) rfl (by
      simp only [hcells, hlt, Array.length_toList, size_zeroCells, hzs, ← Nat.add_mul]
      exact Nat.le_of_eq (by congr 1; omega))
    rw [hn1] at this
    exact this
  unfold kApp at hk
  split at hk
  · -- nil
    rename_i n c
    cases hs
    split at hk
    · rename_i hc
      obtain ⟨_, _, hb, hm⟩ := hc
      split at hk
      · rename_i hm0
        subst hm0
        simp only [Option.some.injEq, Prod.mk.injEq] at hk
        obtain ⟨rfl, rfl⟩ := hk
        have hn' : news' = [] := List.eq_nil_of_length_eq_zero (by rw [← hv.1, hnl]; simp)
        subst hn'
        exact Gives.same h (run_append_none' ht hd hi (hlen w) hnews) .snil
      · rename_i hm0
        simp only [Option.some.injEq, Prod.mk.injEq] at hk
        obtain ⟨rfl, rfl⟩ := hk
        have := moved H [] [] none 0 0 h rfl VL.nil (by simp) (by simp) (by omega) (by simp [Builtin.firstCells]) (by simpa using hb) (by simpa using hm)
        simpa using this
    · cases hk
  · rename_i a n c
    split at hk
    · rename_i cs t' rw hg
      split at hk
      · rename_i hc
        obtain ⟨rfl, hb, hm⟩ := hc
        split at hk
        · rename_i hcx
          subst hcx
          split at hk
          · -- nothing is appended
            rename_i hm0
            subst hm0
            simp only [Option.some.injEq, Prod.mk.injEq] at hk
            obtain ⟨rfl, rfl⟩ := hk
            have hn' : news' = [] := List.eq_nil_of_length_eq_zero (by rw [← hv.1, hnl]; simp)
            subst hn'
            cases hs with
            | sl hL hn hc hsz =>
              rename_i b off c' L
              have := run_append_room' (ty := ty) (news := []) ht hd hi (hlen w) hnews ⟨L.block, L.off + off, none⟩ n c' (by simpa using hn) (w' := w) (by simp [storeCells])
              exact Gives.same h this (.sl hL hn hc hsz)
            | sl0 =>
              rename_i a'
              have := run_append_room' (ty := ty) (news := []) ht hd hi (hlen w) hnews a' 0 0 (by simp) (w' := w) (by simp [storeCells])
              exact Gives.same h this .sl0
          · rename_i hm0
            split at hk
            · rename_i hrw
              cases hrd : rd cs a.off (n * i.size) with
              | none => simp [hrd] at hk
              | some olds =>
                simp only [hrd, Option.map_some, Option.some.injEq, Prod.mk.injEq] at hk
                obtain ⟨rfl, rfl⟩ := hk
                have hown : (H.get a.block).own = true := by rw [hg]; exact hrw
                cases hs with
                | sl0 =>
                  rename_i b off a'
                  have hol : olds = [] := List.eq_nil_of_length_eq_zero (by have := rd_length hrd; simpa using this)
                  subst hol
                  have := moved (H.put b .dead) [] [] (some a') 0 0 (h.kill b) (Heap.next_put _ _ _) VL.nil (by simp) (by simp) (by omega) (by simp [Builtin.firstCells, loadCells, loadCellsFrom]) hb hm
                  simpa using this
                | sl hL hn hc hsz =>
                  rename_i b off c' L
                  simp only at hg hown hrd
                  obtain ⟨olds', hvo, hol', hoo, hoo', hcell⟩ := row_at h hg hL hrd
                  have hole := rd_length hrd
                  rcases Nat.lt_or_ge c' (n + m) with hlt | hge
                  · exact moved (H.put b .dead) olds olds' _ n c' (h.kill b) (Heap.next_put _ _ _) hvo hoo hole hlt (by
                      have := run_firstCells_some (P := P) w.drew i.size n ⟨L.block, L.off + off, none⟩ n c' olds' hol' (fun j v hj => by rw [Addr.add_lit]; exact hcell j v hj)
                      exact this) hb hm
                  · -- in its place
                    obtain ⟨he, arr, tw, fr, h2, hsz2, hle, h5, h6⟩ := cells_inv h hg hL
                    have hfit : L.off + off + (n + m) * i.size ≤ arr.size := by
                      rw [hsz2]
                      have : (n + m) * i.size ≤ c' * i.size := Nat.mul_le_mul_right _ hge
                      rw [he, hcells] at hsz
                      omega
                    have ho' : ∀ y ∈ news', oneC y = true := by
                      intro y hy
                      obtain ⟨j, hj⟩ := List.mem_iff_getElem?.1 hy
                      have hlt : j < news.length := by rw [hv.1]; exact (List.getElem?_eq_some_iff.1 hj).1
                      rw [(hv.2 j _ y (List.getElem?_eq_getElem hlt) hj).oneC_eq]; exact ho _ (List.getElem_mem hlt)
                    have hmul : (n + m) * i.size = n * i.size + m * i.size := Nat.add_mul _ _ _
                    have hst := run_storeRow (P := P) L.block (L.off + off + n * i.size) tw fr news' 0 arr w h2 (by rw [← hv.1, hnl]; omega) ho' (h6 hrw)
                    have hr := run_append_room' (ty := ty) (news := news') ht hd hi (hlen w) hnews ⟨L.block, L.off + off, none⟩ n c' hge (by rw [Addr.add_lit]; exact hst)
                    have hB : ¬ B.fr L.block := h.own b L hL hown
                    have hG : ¬ B.gh L.block := h.ghost b L hL (own_live hown)
                    refine ⟨ρ ++ [⟨L.block, L.off + off, L.size, t'⟩], _, _, hr, List.prefix_append _ _, ?_, ?_⟩
                    · have hnx : (ρ ++ [(⟨L.block, L.off + off, L.size, t'⟩ : Loc)])[H.next]? = some ⟨L.block, L.off + off, L.size, t'⟩ := new_last h _
                      have := VRel.sl (P := P) (off := 0) (n := n + m) (c := capx) (c' := c') hnx hge (.inr rfl) (by rw [he] at hsz; simpa using hsz)
                      simpa using this
                    · refine (h.kill b).push_at hB hG (fun b' L' hb' hl => own_alone (L := L) h hL hown b' L' hb' hl) (Bel.setRow hB hG _) (fun j hj _ => setRow_other w _ _ _ hj) ?_
                      have hsz' : (arr.toList.take (L.off + off + n * i.size + 0) ++ news' ++ arr.toList.drop (L.off + off + n * i.size + 0 + news'.length)).length = arr.size := by
                        simp only [List.length_append, List.length_take, List.length_drop, Array.length_toList, ← hv.1, hnl]; omega
                      refine ⟨rfl, _, tw, fr, setRow_heap w _ arr _ tw fr h2, by simpa [hsz2] using hsz', ?_, ?_, fun _ j hj => h6 hrw j (by rw [List.size_toArray, hsz'] at hj; exact hj)⟩
                      · rw [List.size_toArray, hsz', List.length_append, hole, hnl, ← hmul]; exact hfit
                      · intro j x hx
                        have hwr := wr_get (c := arr.toList) (vs := news') (off := L.off + off + n * i.size) (by rw [← hv.1, hnl]; simp; omega) (L.off + off + j)
                        have hy : ((arr.toList.take (L.off + off + n * i.size + 0) ++ news' ++ arr.toList.drop (L.off + off + n * i.size + 0 + news'.length)).toArray)[L.off + off + j]? =
                            (wr arr.toList (L.off + off + n * i.size) news')[L.off + off + j]? := by simp [wr]
                        rw [hy, hwr]
                        rcases Nat.lt_or_ge j olds.length with hjl | hjg
                        · rw [List.getElem?_append_left hjl] at hx
                          rw [if_neg (by omega)]
                          obtain ⟨y, hyy, hvv⟩ := hvo.get hx
                          refine ⟨hoo x (List.mem_of_getElem? hx), y, ?_, hvv.mono (List.prefix_append _ _)⟩
                          have hc2 := hcell j y hyy
                          simp only [World.cell?, h2] at hc2
                          simpa using hc2
                        · rw [List.getElem?_append_right hjg] at hx
                          have hjn : j - olds.length < news.length := (List.getElem?_eq_some_iff.1 hx).1
                          rw [if_pos (by rw [← hv.1]; omega)]
                          obtain ⟨y, hyy, hvv⟩ := hv.get hx
                          refine ⟨ho x (List.mem_of_getElem? hx), y, ?_, hvv.mono (List.prefix_append _ _)⟩
                          rw [← hyy]; congr 1; omega
            · cases hk
        · rename_i hcx
          have hcc : ∀ {b off c' : Nat} {L : Loc}, (c' = c ∨ c = capx) → c' = c := fun h => h.resolve_right hcx
          cases hs with
          | sl0 => exact absurd rfl hcx
          | sl hL hn hc hsz =>
            rename_i b off c' L
            obtain rfl : c' = c := hc.resolve_right hcx
            simp only at hg hk
            split at hk
            · rename_i hroom
              split at hk
              · rename_i hm0
                subst hm0
                simp only [Option.some.injEq, Prod.mk.injEq] at hk
                obtain ⟨rfl, rfl⟩ := hk
                have hn' : news' = [] := List.eq_nil_of_length_eq_zero (by rw [← hv.1, hnl]; simp)
                subst hn'
                have := run_append_room' (ty := ty) (news := []) ht hd hi (hlen w) hnews ⟨L.block, L.off + off, none⟩ n c' (by simpa using hn) (w' := w) (by simp [storeCells])
                exact Gives.same h this (.sl hL hn (.inl rfl) hsz)
              · split at hk
                · rename_i hcond
                  simp only [Bool.and_eq_true, decide_eq_true_eq] at hcond
                  obtain ⟨hrw, hfit⟩ := hcond
                  subst hrw
                  simp only [Option.some.injEq, Prod.mk.injEq] at hk
                  obtain ⟨rfl, rfl⟩ := hk
                  have hmul : (n + m) * i.size = n * i.size + m * i.size := Nat.add_mul _ _ _
                  obtain ⟨w', hst, hH⟩ := store_row (vs := news) (vs' := news') h hg hL (off := off + n * i.size) (by rw [hnl]; omega) hv ho
                  have hr := run_append_room' (ty := ty) (news := news') ht hd hi (hlen w) hnews ⟨L.block, L.off + off, none⟩ n c' hroom (by rw [Addr.add_lit, Nat.add_assoc]; exact hst)
                  exact ⟨ρ, _, w', hr, List.prefix_refl _, .sl hL hroom (.inl rfl) hsz, hH⟩
                · cases hk
            · rename_i hroom
              cases hrd : rd cs off (n * i.size) with
              | none => simp [hrd] at hk
              | some olds =>
                simp only [hrd, Option.map_some, Option.some.injEq, Prod.mk.injEq] at hk
                obtain ⟨rfl, rfl⟩ := hk
                obtain ⟨olds', hvo, hol', hoo, hoo', hcell⟩ := row_at h hg hL hrd
                exact moved H olds olds' _ n c' h rfl hvo hoo (rd_length hrd) (by omega) (by
                      have := run_firstCells_some (P := P) w.drew i.size n ⟨L.block, L.off + off, none⟩ n c' olds' hol' (fun j v hj => by rw [Addr.add_lit]; exact hcell j v hj)
                      exact this) hb hm
      · cases hk
    · cases hk
  · cases hk

end
end Go.Proofs.YtjgpbhodbgjggaaGreat.K
/- More of K's operations: copy, bytes and strings, cuts, places of elements and fields, equality. -/
set_option linter.unusedVariables false
set_option linter.unusedSimpArgs false
namespace Go.Proofs.YtjgpbhodbgjggaaGreat.K
open Go Go.RowKit

section
variable {P : Program} {B : Fz} {w0 w : World} {ρ : Rho} {H : Heap}

theorem VL.eq_of {xs ys : List Value} (h : VL P ρ xs ys) (he : ∀ x ∈ xs, ∀ y, VRel P ρ x y → y = x) : ys = xs := by
  apply List.ext_getElem?
  intro i
  cases hx : xs[i]? with
  | none => rw [List.getElem?_eq_none_iff] at hx ⊢; rw [← h.1]; exact hx
  | some x => obtain ⟨y, hy, hv⟩ := h.get hx; rw [hy, he x (List.mem_of_getElem? hx) y hv]

theorem Heap.put_self (H : Heap) (b : Nat) : H.put b (H.get b) = H := by
  induction H generalizing b with
  | nil => rfl
  | cons x H ih => cases b <;> simp [Heap.put, Heap.get, ih]

/- COPY -/
theorem cpy_ok {t xt ty e : TypeId} {i : TypeInfo} (ht : P.underlying t = some (.slice e)) (hi : P.info? e = some i) (h : HRel P B w0 ρ H w) {n c m c2 : Nat} {a b : Option Addr} {x' y' v : Value} {H' : Heap}
    (hx : VRel P ρ (.slice a n c) x') (hy : VRel P ρ (.slice b m c2) y')
    (hk : ((kRow H e i.size (min m n) b).bind fun l => match a with
        | none => some (Value.int .i64 (min m n : Nat), H)
        | some a => match H.get a.block with
          | .cells c t' true => if t' = e && decide (a.off + l.length ≤ c.length) then some (.int .i64 (min m n : Nat), H.put a.block (.cells (wr c a.off l) t' true)) else none
          | _ => none) = some (v, H')) : Gives P B w0 ρ (Builtin.copy_ #[t, xt] ty #[x', y']) w v H' := by
  cases hr : kRow H e i.size (min m n) b with
  | none => simp [hr] at hk
  | some l =>
    simp only [hr, Option.bind_some] at hk
    have hy2 : ∃ x2, VRel P ρ (.slice b (min m n) c2) x2 ∧ ∃ b' cc mm, y' = .slice b' m cc ∧ x2 = .slice b' (min m n) mm := by
      cases hy with
      | snil => exact ⟨_, by simp; exact .snil, none, 0, 0, rfl, by simp⟩
      | sl hL hn hc hs => exact ⟨_, .sl hL (by omega) hc hs, _, _, _, rfl, rfl⟩
      | sl0 =>
        rename_i bb oo aa
        exact ⟨.slice (some aa) 0 0, by simpa using VRel.sl0 (P := P) (ρ := ρ) (b := bb) (off := oo) (a' := aa), some aa, 0, 0, rfl, by simp⟩
    obtain ⟨x2, hx2, b', cc, mm, rfl, rfl⟩ := hy2
    obtain ⟨hll, a2, c', he2, l', hv, hl', ho, hcell⟩ := kRow_inv h hx2 hr
    injection he2 with e1 e2 e3
    subst e1
    have hf : (Builtin.firstCells i.size (min m n) (.slice b' m cc)).run P w = .ok l'.toArray w := by
      rcases hcell with ⟨rfl, h0⟩ | ⟨b2, rfl, hc2⟩
      · have : l' = [] := List.eq_nil_of_length_eq_zero (by rw [hl', h0]; simp)
        subst this
        simp [Builtin.firstCells]
      · exact run_firstCells_some (P := P) w i.size (min m n) b2 m cc l' hl' hc2
    have hmin : Nat.min m n = min m n := rfl
    cases hx with
    | snil =>
      simp only [Option.some.injEq, Prod.mk.injEq] at hk
      obtain ⟨rfl, rfl⟩ := hk
      refine Gives.same h ?_ (.int _ _)
      simp only [Nat.min_zero] at hf ⊢
      simp [Builtin.copy_, run_underlying ht, Builtin.lenOf, sizeOf, typeInfo, hi, hf, goInt]
    | sl0 =>
      rename_i bb oo aa
      simp only at hk
      split at hk
      · rename_i cs t' hg
        split at hk
        · rename_i hcond
          simp only [Bool.and_eq_true, decide_eq_true_eq] at hcond
          simp only [Option.some.injEq, Prod.mk.injEq] at hk
          obtain ⟨rfl, rfl⟩ := hk
          have hl0 : l = [] := List.eq_nil_of_length_eq_zero (by rw [hll]; simp)
          have hl0' : l' = [] := List.eq_nil_of_length_eq_zero (by rw [hl']; simp)
          subst hl0; subst hl0'
          have hput : H.put bb (.cells (wr cs oo []) t' true) = H := by
            have : wr cs oo [] = cs := by simp [wr]
            rw [this, ← hg, Heap.put_self]
          simp only [hput]
          refine Gives.same h ?_ (.int _ _)
          simp only [hmin] at *
          simp at hf
          simp [Builtin.copy_, run_underlying ht, Builtin.lenOf, sizeOf, typeInfo, hi, hf, goInt, storeCells]
        · cases hk
      · cases hk
    | sl hL hn hc hs =>
      rename_i bb oo c' L
      simp only at hk
      split at hk
      · rename_i cs t' hg
        split at hk
        · rename_i hcond
          simp only [Bool.and_eq_true, decide_eq_true_eq] at hcond
          simp only [Option.some.injEq, Prod.mk.injEq] at hk
          obtain ⟨rfl, rfl⟩ := hk
          obtain ⟨w', hst, hH⟩ := store_row (vs := l) (vs' := l') h hg hL (off := oo) hcond.2 hv ho
          refine ⟨ρ, _, w', ?_, List.prefix_refl _, .int _ _, hH⟩
          simp only [hmin] at *
          simp [Builtin.copy_, run_underlying ht, Builtin.lenOf, sizeOf, typeInfo, hi, hf, goInt, hst, hmin]
        · cases hk
      · cases hk

/- BYTES AND STRINGS -/
theorem kBytes_inv {l : List Value} : ∀ {bs : List UInt8}, kBytes l = some bs → ∃ ns : List Int, l = ns.map (Value.int .u8) ∧ bs = ns.map fun n => UInt8.ofNat n.toNat := by
  induction l with
  | nil => intro bs h; exact ⟨[], rfl, by simpa [kBytes] using h.symm⟩
  | cons v l ih =>
    intro bs h
    cases v with
    | int k n =>
      cases k with
      | u8 =>
        simp only [kBytes] at h
        cases hb : kBytes l with
        | none => simp [hb] at h
        | some bs' =>
          simp [hb] at h
          obtain ⟨ns, rfl, rfl⟩ := ih hb
          exact ⟨n :: ns, rfl, by simpa using h.symm⟩
      | _ => simp [kBytes] at h
    | _ => simp [kBytes] at h

theorem b2s_ok {src dst e : TypeId} (hs : P.underlying src = some (.slice e)) (he : P.underlying e = some (.int .u8)) (hd : P.underlying dst = some .string) (h : HRel P B w0 ρ H w)
    {a : Option Addr} {n c : Nat} {x' : Value} {l : List Value} {bs : List UInt8} (hx : VRel P ρ (.slice a n c) x') (hr : kRow H e 1 n a = some l) (hb : kBytes l = some bs) :
    Gives P B w0 ρ (convert src dst x') w (.string ⟨bs.toArray⟩) H := by
  obtain ⟨hll, a2, c', rfl, l', hv, hl', ho, hcell⟩ := kRow_inv h hx hr
  obtain ⟨ns, rfl, rfl⟩ := kBytes_inv hb
  have hle : l' = ns.map (Value.int .u8) := hv.eq_of (fun x hx y hy => by
    obtain ⟨n, _, rfl⟩ := List.mem_map.1 hx
    cases hy; rfl)
  subst hle
  refine Gives.same h (v' := .string ⟨(ns.map fun n => UInt8.ofNat n.toNat).toArray⟩) ?_ (.string _)
  rw [run_convert_bytes_string w src dst e _ _ _ hs he hd]
  rcases hcell with ⟨rfl, h0⟩ | ⟨b2, rfl, hc2⟩
  · have hn0 : ns = [] := by
      have : ns.length = 0 := by have := hl'; simp at this; omega
      exact List.eq_nil_of_length_eq_zero this
    subst hn0
    simp [Conv.bytesToString]
    rfl
  · have hlc := run_loadCells_list (P := P) w b2 _ hc2
    rw [hl', Nat.mul_one] at hlc
    rw [run_bytesToString w b2 n c' ns hlc, foldl_push_bytes]
    simp

theorem VL.bytes (s : ByteArray) : VL P ρ (byteVals s) (byteVals s) :=
  ⟨rfl, fun i x y hx hy => by
    rw [hx] at hy; cases hy
    simp only [byteVals, List.getElem?_map] at hx
    cases hs : s.data.toList[i]? with
    | none => simp [hs] at hx
    | some b => simp [hs] at hx; subst hx; exact .int _ _⟩
theorem oneC_bytes (s : ByteArray) : ∀ x ∈ byteVals s, oneC x = true := by
  intro x hx
  simp only [byteVals, List.mem_map] at hx
  obtain ⟨b, _, rfl⟩ := hx
  rfl
theorem byteVals_length (s : ByteArray) : (byteVals s).length = s.size := by simp [byteVals]

theorem heap_freeze (w : World) (g n k : Nat) (i : Nat) (hi : i ≠ g) : (w.freeze ⟨g, n, none⟩ k).heap[i]? = w.heap[i]? := by
  unfold World.freeze
  split
  · rfl
  · simp only [Array.getElem?_modify]; rw [if_neg (fun e => hi e.symm)]

theorem s2b_ok {src dst e : TypeId} {i : TypeInfo} {d : TypeDesc} (hs : P.underlying src = some d) (hdst : P.underlying dst = some (.slice e)) (he : P.underlying e = some (.int .u8)) (hi : P.info? e = some i) (h1 : i.size = 1)
    (h : HRel P B w0 ρ H w) (s : ByteArray) (hsz : s.size ≤ roomMax) :
    Gives P B w0 ρ (convert src dst (.string s)) w (.slice (some ⟨H.next, 0, none⟩) s.size capx) (H.push (.cells (byteVals s) e true)) := by
  have hge := grownCap_ge w s.size 0 e
  have hcells : P.cellsOf e = 1 := by simp [Program.cellsOf, hi, h1]
  obtain ⟨arr, harr⟩ : ∃ arr : Array Value, arr = ((byteVals s) ++ List.replicate (grownCap w s.size 0 e - s.size) (Value.int .u8 0)).toArray := ⟨_, rfl⟩
  have hasz : arr.size = grownCap w s.size 0 e := by rw [harr]; simp [byteVals_length]; omega
  have hrun : (convert src dst (.string s)).run P w = .ok (.slice (some ⟨w.heap.size, 0, none⟩) s.size (grownCap w s.size 0 e)) ((w.drew.alloc (.cells arr e)).freeze ⟨w.heap.size, arr.size, none⟩ 1) := by
    have e1 : (s.data.map fun b => Value.int .u8 b.toNat) ++ Array.replicate (grownCap w s.size 0 e - s.size) (Value.int .u8 0) = arr := by
      rw [harr]; apply Array.ext'; simp [byteVals]
    have hsh : (w.drew.alloc (.cells arr e)).shape? w.heap.size = some (e, arr.size) := by
      have h0 : (w.drew.alloc (.cells arr e)).heap[w.heap.size]? = some (.cells arr e) := heap_alloc_new w.drew _
      simp only [World.shape?, h0]
    have e2 : (Conv.stringToBytes e s).run P w = .ok (.slice (some ⟨w.heap.size, 0, none⟩) s.size (grownCap w s.size 0 e)) ((w.drew.alloc (.cells arr e)).freeze ⟨w.heap.size, arr.size, none⟩ 1) := by
      unfold grownCap at e1 ⊢
      simp only [Conv.stringToBytes, Sem.run_bind, choose, Sem.run, Question.forced, Bool.false_eq_true, if_false, Result.andThen, newRow, newObj, Sem.run_pure, markStringish, shape, freeze, World.drew_eq, World.alloc_eq, World.size_drew]
      rw [e1, hsh]
      rfl
    cases d <;> simp [convert, run_underlying hs, run_underlying hdst, run_underlying he, e2]
  refine ⟨ρ ++ [⟨w.heap.size, 0, arr.size, e⟩], _, _, hrun, List.prefix_append _ _, ?_, ?_⟩
  · exact sl_new h hge (.inr rfl) rfl (by simp [hcells, hasz])
  · have hnew : ((w.drew.alloc (.cells arr e)).freeze ⟨w.heap.size, arr.size, none⟩ 1).heap[w.heap.size]? = some (.cells arr e (arr.size, arr.size + 1)) := by
      have h0 : (w.drew.alloc (.cells arr e)).heap[w.heap.size]? = some (.cells arr e) := heap_alloc_new w.drew _
      simp only [World.freeze, Nat.succ_ne_zero, if_false, Array.getElem?_modify, if_true, h0, Option.map_some]
      simp
    have hold : ∀ j, j ≠ w.heap.size → j < w.heap.size → ((w.drew.alloc (.cells arr e)).freeze ⟨w.heap.size, arr.size, none⟩ 1).heap[j]? = w.heap[j]? := fun j hj hlt => by
      rw [heap_freeze _ _ _ _ _ hj]; exact Below.heap_alloc w.drew _ _ hlt
    refine h.push_at (fun hf => by have := h.base _ (.inl hf); simp only at this; omega) (fun hf => by have := h.base _ (.inr hf); simp only at this; omega) (fun b L' hb hl e => by have := (h.blk b L' hb).lt hl; simp only at e; omega) ⟨rfl, rfl, rfl, ?_, fun k hk => hold k (by have := h.base k hk; omega) (h.base k hk)⟩ hold ?_
    · simp only [World.freeze]; split <;> simp
    · refine ⟨rfl, arr, e, _, hnew, rfl, by simp [byteVals_length, hasz]; omega, ?_, fun _ j hj => by simp; omega⟩
      intro j x hx
      refine ⟨oneC_bytes s x (List.mem_of_getElem? hx), x, ?_, (VL.bytes s).2 j x x hx hx⟩
      have hlt := (List.getElem?_eq_some_iff.1 hx).1
      rw [harr]
      simp [List.getElem?_append_left hlt, hx]

/- CUTS -/
def IsI (o : Option Value) (d l : Int) : Prop := (o = none ∧ l = d) ∨ ∃ k, o = some (.int k l)

theorem run_cut {t e : TypeId} {i : TypeInfo} (ht : P.underlying t = some (.slice e)) (hi : P.info? e = some i) (a : Option Addr) (len cap : Nat) (lo hi' : Option Value) (l h : Int)
    (hlo : IsI lo 0 l) (hhi : IsI hi' len h) (h0 : 0 ≤ l) (h1 : l ≤ h) (h2 : h ≤ cap) (w : World) :
    (Instr.sliceAt t (.slice a len cap) lo hi' none).run P w = .ok (sliced a l.toNat h.toNat cap i.size) w := by
  have eh : (h.toNat : Int) = h := Int.toNat_of_nonneg (by omega)
  have h3 : 0 ≤ h := by omega
  rcases hlo with ⟨rfl, rfl⟩ | ⟨kl, rfl⟩ <;> rcases hhi with ⟨rfl, rfl⟩ | ⟨kh, rfl⟩ <;>
    simp_all [Instr.sliceAt, Instr.slice, run_underlying ht, sizeOf, typeInfo, Instr.sliceBounds, run_sliceBound, sliced]

theorem run_cutA {t e : TypeId} {i : TypeInfo} {n : Nat} (ht : P.underlying t = some (.array n e)) (hi : P.info? e = some i) (a : Addr) (lo hi' : Option Value) (l h : Int)
    (hlo : IsI lo 0 l) (hhi : IsI hi' n h) (h0 : 0 ≤ l) (h1 : l ≤ h) (h2 : h ≤ n) (w : World) :
    (Instr.sliceAt t (.pointer (some a)) lo hi' none).run P w = .ok (.slice (some (if n = l.toNat then a else a.add (l.toNat * i.size))) (h.toNat - l.toNat) (n - l.toNat)) w := by
  have eh : (h.toNat : Int) = h := Int.toNat_of_nonneg (by omega)
  have h3 : 0 ≤ h := by omega
  have hsa : (Instr.sureAddr (.pointer (some a))).run P w = .ok a w := by simp [Instr.sureAddr, asAddr, Sem.run]
  rcases hlo with ⟨rfl, rfl⟩ | ⟨kl, rfl⟩ <;> rcases hhi with ⟨rfl, rfl⟩ | ⟨kh, rfl⟩ <;>
    simp_all [Instr.sliceAt, run_underlying ht, sizeOf, typeInfo, Instr.sliceBounds, run_sliceBound]

theorem sla_ok {t e : TypeId} {i : TypeInfo} {n : Nat} (ht : P.underlying t = some (.array n e)) (hi : P.info? e = some i) (h : HRel P B w0 ρ H w) {a : Addr} {x' v : Value} (hx : VRel P ρ (.pointer (some a)) x') {lo hi' : Option Value} {l hh : Int}
    (hlo : IsI lo 0 l) (hhi : IsI hi' n hh) (hk : kSla H e n i.size a l hh = some v) : Gives P B w0 ρ (Instr.sliceAt t x' lo hi' none) w v H := by
  have hcells : P.cellsOf e = i.size := by simp [Program.cellsOf, hi]
  unfold kSla at hk
  split at hk
  · rename_i cs t' rw_ hg
    split at hk
    · rename_i hc
      obtain ⟨rfl, hfit, h0, h1, h2⟩ := hc
      cases hk
      cases hx with
      | ptr hL =>
        rename_i b off L
        obtain ⟨he, arr, tw, fr, g2, g3, g4, g5, g6⟩ := cells_inv h hg hL
        refine Gives.same h (run_cutA ht hi _ lo hi' l hh hlo hhi h0 h1 h2 w) ?_
        have e1 : (hh - l).toNat = hh.toNat - l.toNat := by omega
        have hle : l.toNat ≤ n := by omega
        simp only at hfit
        by_cases hnl : n = l.toNat
        · rw [if_pos hnl, if_pos hnl.symm, e1]
          refine .sl hL (by omega) (.inl rfl) ?_
          have : n - l.toNat = 0 := by omega
          rw [this, he, hcells]
          simp only [Nat.zero_mul]
          omega
        · rw [if_neg hnl, if_neg (Ne.symm hnl), e1]
          have hmul : l.toNat * i.size + (n - l.toNat) * i.size = n * i.size := by rw [← Nat.add_mul]; congr 1; omega
          have := VRel.sl (P := P) (off := off + l.toNat * i.size) (n := hh.toNat - l.toNat) (c := n - l.toNat) (c' := n - l.toNat) hL (by omega) (.inl rfl) (by rw [he, hcells]; omega)
          rw [← Nat.add_assoc] at this
          have e2 : (⟨L.block, L.off + off, none⟩ : Addr).add (l.toNat * i.size) = ⟨L.block, L.off + off + l.toNat * i.size, none⟩ := by
            simp only [Addr.add]
            split <;> simp_all
          rw [e2]
          exact this
    · cases hk
  · cases hk

theorem slc_ok {t e : TypeId} {i : TypeInfo} (ht : P.underlying t = some (.slice e)) (hi : P.info? e = some i) (h : HRel P B w0 ρ H w) {x x' v : Value} (hx : VRel P ρ x x') {lo hi' : Option Value} {l : Int} {hh : Option Int}
    (hlo : IsI lo 0 l) (hhi : (hi' = none ∧ hh = none) ∨ ∃ k n, hi' = some (.int k n) ∧ hh = some n) (hk : kSlc H e i.size x l hh = some v) : Gives P B w0 ρ (Instr.sliceAt t x' lo hi' none) w v H := by
  have hhi' : ∀ n : Nat, IsI hi' n (hh.getD n) := by
    intro n
    rcases hhi with ⟨rfl, rfl⟩ | ⟨k, m, rfl, rfl⟩
    · exact .inl ⟨rfl, rfl⟩
    · exact .inr ⟨k, rfl⟩
  have hcells : P.cellsOf e = i.size := by simp [Program.cellsOf, hi]
  unfold kSlc at hk
  split at hk
  · rename_i n c
    cases hx
    split at hk
    · cases hk
    · split at hk
      · rename_i hc
        cases hk
        have := run_cut ht hi none 0 0 lo hi' l _ hlo (hhi' 0) hc.1 hc.2.1 hc.2.2 w
        refine Gives.same h this ?_
        have e1 : (hh.getD (0 : Nat)).toNat = 0 := by have := hc.2.2; have := hc.2.1; omega
        have e2 : ((hh.getD (0 : Nat)) - l).toNat = 0 := by have := hc.2.2; have := hc.2.1; omega
        simp only [sliced, e1, e2, Nat.zero_sub, Option.map_none, ite_self]
        exact .snil
      · cases hk
  · rename_i a n c
    split at hk
    · rename_i cs t' rw hg
      split at hk
      · rename_i het
        subst het
        split at hk
        · rename_i hcx
          subst hcx
          split at hk
          · rename_i hb
            cases hk
            cases hx with
            | sl0 =>
              rename_i b off a'
              have hb' : 0 ≤ l ∧ l ≤ hh.getD (0 : Nat) ∧ hh.getD (0 : Nat) ≤ (0 : Nat) := hb
              have := run_cut ht hi (some a') 0 0 lo hi' l _ hlo (hhi' 0) hb'.1 hb'.2.1 hb'.2.2 w
              refine Gives.same h this ?_
              have e0 : l = 0 := by omega
              have e1 : hh.getD (0 : Nat) = 0 := by omega
              subst e0
              simp only [sliced, e1, addOff]
              exact .sl0
            | sl hL hn hc hs =>
              rename_i b off c' L
              have := run_cut ht hi (some ⟨L.block, L.off + off, none⟩) n c' lo hi' l _ hlo (hhi' n) hb.1 hb.2.1 (by omega) w
              refine Gives.same h this ?_
              obtain ⟨h0, h1, h2⟩ := hb
              have hel : L.elem = t' := (cells_inv h hg hL).1
              simp only [sliced, addOff]
              by_cases hcl : c' = l.toNat
              · rw [if_pos hcl]
                have e1 : (hh.getD (n : Nat) - l).toNat = 0 := by omega
                have e2 : c' - l.toNat = 0 := by omega
                have e3 : (hh.getD (n : Nat)).toNat - l.toNat = 0 := by omega
                rw [e1, e2, e3]
                exact .sl0
              · rw [if_neg hcl]
                have e1 : (hh.getD (n : Nat)).toNat - l.toNat = (hh.getD (n : Nat) - l).toNat := by omega
                rw [e1]
                have hle : l.toNat ≤ c' := by omega
                have hmul : c' * i.size = l.toNat * i.size + (c' - l.toNat) * i.size := by rw [← Nat.add_mul]; congr 1; omega
                have := VRel.sl (P := P) (b := b) (off := off + l.toNat * i.size) (n := (hh.getD (n : Nat) - l).toNat) (c := capx) (c' := c' - l.toNat) hL (by omega) (.inr rfl)
                  (by rw [hel, hcells] at hs ⊢; omega)
                simpa [Addr.add_lit, Nat.add_assoc] using this
          · cases hk
        · rename_i hcx
          split at hk
          · rename_i hb
            cases hk
            cases hx with
            | sl0 => exact absurd rfl hcx
            | sl hL hn hc hs =>
              rename_i b off c' L
              obtain rfl : c' = c := hc.resolve_right hcx
              have := run_cut ht hi (some ⟨L.block, L.off + off, none⟩) n c' lo hi' l _ hlo (hhi' n) hb.1 hb.2.1 (by omega) w
              refine Gives.same h this ?_
              obtain ⟨h0, h1, h2⟩ := hb
              have hel : L.elem = t' := (cells_inv h hg hL).1
              have e1 : (hh.getD (n : Nat)).toNat - l.toNat = (hh.getD (n : Nat) - l).toNat := by omega
              simp only [sliced, addOff, e1]
              have hle : l.toNat ≤ c' := by omega
              by_cases hcl : l.toNat = c'
              · rw [if_pos hcl, if_pos hcl.symm]
                exact .sl hL (by omega) (.inl rfl) (by rw [hcl]; simp; omega)
              · rw [if_neg hcl, if_neg (fun e => hcl e.symm)]
                have hmul : c' * i.size = l.toNat * i.size + (c' - l.toNat) * i.size := by rw [← Nat.add_mul]; congr 1; omega
                have := VRel.sl (P := P) (b := b) (off := off + l.toNat * i.size) (n := (hh.getD (n : Nat) - l).toNat) (c := c' - l.toNat) (c' := c' - l.toNat) hL (by omega) (.inl rfl)
                  (by rw [hel, hcells] at hs ⊢; omega)
                simpa [Addr.add_lit, Nat.add_assoc] using this
          · cases hk
      · cases hk
    · cases hk
  · cases hk

theorem slS_ok {t : TypeId} (ht : P.underlying t = some .string) (s : ByteArray) {lo hi' : Option Value} {l hh : Int} (hlo : IsI lo 0 l) (hhi : IsI hi' s.size hh) {v : Value} (hk : kSlS s l hh = some v) (w : World) :
    (Instr.sliceAt t (.string s) lo hi' none).run P w = .ok v w ∧ VRel P ρ v v := by
  unfold kSlS at hk
  split at hk
  · rename_i hc
    cases hk
    obtain ⟨h0, h1, h2⟩ := hc
    have eh : (hh.toNat : Int) = hh := Int.toNat_of_nonneg (by omega)
    refine ⟨?_, .string _⟩
    have h3 : 0 ≤ hh := by omega
    rcases hlo with ⟨rfl, rfl⟩ | ⟨kl, rfl⟩ <;> rcases hhi with ⟨rfl, rfl⟩ | ⟨kh, rfl⟩ <;>
      simp_all [Instr.sliceAt, Instr.slice, run_underlying ht, Instr.sliceBounds, run_sliceBound]
  · cases hk

end
end Go.Proofs.YtjgpbhodbgjggaaGreat.K
/- More of K's operations: numbers, texts, parts of structs and arrays, equality, maps. -/
set_option linter.unusedVariables false
set_option linter.unusedSimpArgs false
namespace Go.Proofs.YtjgpbhodbgjggaaGreat.K
open Go Go.RowKit

section
variable {P : Program} {B : Fz} {w0 w : World} {ρ : Rho} {H : Heap}

/- NUMBERS AND TEXTS -/
theorem int_ok {o : BinOp} {k : IntKind} {a b : Int} {v : Value} (t : TypeId) (hk : kInt o k a b = some v) (w : World) : (binOp o t (.int k a) (.int k b)).run P w = .ok v w ∧ VRel P ρ v v := by
  cases o <;> simp only [kInt] at hk <;> first
    | (cases hk; done)
    | (split at hk
       · cases hk
       · rename_i hne
         cases hk
         exact ⟨by simp [binOp, Op.intDiv, hne], .int _ _⟩)
    | (cases hk
       exact ⟨by simp [binOp, Op.intArith, Op.intBits, Op.intCmp], by first | exact .int _ _ | exact .bool _⟩)

theorem str_ok {o : BinOp} {a b : ByteArray} {v : Value} (t : TypeId) (hk : kStr o a b = some v) (w : World) : (binOp o t (.string a) (.string b)).run P w = .ok v w ∧ VRel P ρ v v := by
  cases o <;> simp only [kStr] at hk <;> first
    | (cases hk; done)
    | (split at hk
       · cases hk
       · rename_i hne
         cases hk
         have hne' : ((a.size + b.size : Nat) : Int) ≤ IntKind.i64.max := by omega
         exact ⟨by simp only [binOp, Op.stringOp]; rw [if_neg (by omega)]; rfl, .string _⟩)
    | (cases hk
       exact ⟨by simp [binOp, Op.stringOp], .bool _⟩)

theorem bin_ok {o : BinOp} {x y x' y' v : Value} (t : TypeId) (hx : VRel P ρ x x') (hy : VRel P ρ y y') (hk : kBin o x y = some v) (w : World) :
    (binOp o t x' y').run P w = .ok v w ∧ VRel P ρ v v ∧ ∀ op ox oy, (eqGuard op t ox oy x' y').run P w = .ok () w := by
  unfold kBin at hk
  split at hk
  · rename_i k a k' b
    cases hx; cases hy
    refine ⟨?_, ?_, fun op ox oy => by cases op <;> simp [eqGuard]⟩
    all_goals
      split at hk
      · split at hk
        · cases hk
        · rename_i hb
          cases hk
          first
            | exact .int _ _
            | simp [binOp, Op.shift, hb]
      · split at hk
        · cases hk
        · rename_i hb
          cases hk
          first
            | exact .int _ _
            | simp [binOp, Op.shift, hb]
      · split at hk
        · rename_i hkk
          subst hkk
          first
            | exact (int_ok (P := P) (ρ := ρ) t hk w).1
            | exact (int_ok (P := P) (ρ := ρ) t hk w).2
        · cases hk
  · cases hx; cases hy
    have := str_ok (P := P) (ρ := ρ) t hk w
    exact ⟨this.1, this.2, fun op ox oy => by cases op <;> simp [eqGuard]⟩
  · cases hk

theorem un_ok {o : UnOp} {x x' v : Value} (hx : VRel P ρ x x') (hk : kUn o x = some v) (w : World) : (Op.unary o x').run P w = .ok v w ∧ VRel P ρ v v := by
  unfold kUn at hk
  split at hk
  · cases hx
    cases o <;> simp only at hk <;> first
      | (cases hk; done)
      | (cases hk; exact ⟨by simp [Op.unary, Op.intArith, Op.intBits], .int _ _⟩)
  · cases hx
    cases o <;> simp only at hk <;> first
      | (cases hk; done)
      | (cases hk; exact ⟨by simp [Op.unary], .bool _⟩)
  · cases hk

theorem cvt_ok {src dst : TypeId} {d : TypeDesc} {k : IntKind} (hs : P.underlying src = some d) (hd : P.underlying dst = some (.int k)) (j : IntKind) (n : Int) (w : World) :
    (convert src dst (.int j n)).run P w = .ok (.int k (k.wrap n)) w := by
  simp [convert, run_underlying hs, run_underlying hd, Conv.intToInt]

theorem mx_ok : ∀ {x : Value} {l : List Value} {v : Value}, kMx x l = some v → ∀ w : World, (l.foldlM Builtin.max2 x).run P w = .ok v w ∧ VRel P ρ v v ∧ VRel P ρ x x ∧ ∀ y ∈ l, ∃ k n, y = .int k n
  | x, [], v, hk, w => by
    cases x <;> simp [kMx] at hk
    subst hk
    exact ⟨by simp [List.foldlM], .int _ _, .int _ _, by simp⟩
  | x, y :: l, v, hk, w => by
    cases x <;> cases y <;> simp only [kMx] at hk <;> first
      | (cases hk; done)
      | (rename_i k a j b
         obtain ⟨h1, h2, h3, h4⟩ := mx_ok hk w
         refine ⟨?_, h2, .int _ _, ?_⟩
         · simp only [List.foldlM_cons, Sem.run_bind, Builtin.max2, Sem.run_pure, Result.andThen_ok]
           exact h1
         · intro y hy
           rcases List.mem_cons.1 hy with rfl | hy
           · exact ⟨_, _, rfl⟩
           · exact h4 y hy)
theorem mn_ok : ∀ {x : Value} {l : List Value} {v : Value}, kMn x l = some v → ∀ w : World, (l.foldlM Builtin.min2 x).run P w = .ok v w ∧ VRel P ρ v v ∧ VRel P ρ x x ∧ ∀ y ∈ l, ∃ k n, y = .int k n
  | x, [], v, hk, w => by
    cases x <;> simp [kMn] at hk
    subst hk
    exact ⟨by simp [List.foldlM], .int _ _, .int _ _, by simp⟩
  | x, y :: l, v, hk, w => by
    cases x <;> cases y <;> simp only [kMn] at hk <;> first
      | (cases hk; done)
      | (rename_i k a j b
         obtain ⟨h1, h2, h3, h4⟩ := mn_ok hk w
         refine ⟨?_, h2, .int _ _, ?_⟩
         · simp only [List.foldlM_cons, Sem.run_bind, Builtin.min2, Sem.run_pure, Result.andThen_ok]
           exact h1
         · intro y hy
           rcases List.mem_cons.1 hy with rfl | hy
           · exact ⟨_, _, rfl⟩
           · exact h4 y hy)

/- PARTS -/
theorem run_part_one {t : TypeId} {d : TypeDesc} (hd : P.underlying t = some d) (hna : isAggD d = false) (cs : Array Value) (off : Nat) (v : Value)
    (h : cs[off]? = some v) (w : World) : (part t cs off).run P w = .ok v w := by
  cases d <;> simp_all [isAggD, part, isAgg, run_underlying hd]

theorem agg_part {xs ys : Array Value} {off n : Nat} {l : List Value} (hs : xs.size = ys.size) (h : ∀ (i : Nat) x y, xs[i]? = some x → ys[i]? = some y → VRel P ρ x y)
    (ho : ∀ (i : Nat) x, xs[i]? = some x → oneC x = true) (hr : rd xs.toList off n = some l) : VRel P ρ (.agg l.toArray) (.agg (ys.extract off (off + n))) := by
  obtain ⟨h1, rfl⟩ := rd_some hr
  have e : ys.extract off (off + n) = ((ys.toList.drop off).take n).toArray := by
    apply Array.ext'
    simp [List.take_drop, Nat.add_comm]
  rw [e]
  exact agg_of (((VL.arr hs h).drop off).take n) (fun x hx => by
    have hx := List.mem_of_mem_drop (List.mem_of_mem_take hx)
    obtain ⟨i, hi⟩ := List.mem_iff_getElem?.1 hx
    exact ho i x (by simpa using hi))

theorem run_part_agg {t : TypeId} {d : TypeDesc} {i : TypeInfo} (hd : P.underlying t = some d) (ha : isAggD d = true) (hi : P.info? t = some i)
    (cs : Array Value) (off : Nat) (w : World) : (part t cs off).run P w = .ok (.agg (cs.extract off (off + i.size))) w := by
  cases d <;> simp_all [isAggD, part, isAgg, run_underlying hd, sizeOf, typeInfo]

theorem fld_ok {t : TypeId} {fs : Array Field} {f : Field} {n : Nat} {d : TypeDesc} (ht : P.underlying t = some (.struct fs)) (hf : fs[n]? = some f) (hd : P.underlying f.type = some d)
    (hna : isAggD d = false) {x' v : Value} {cs : Array Value} (hx : VRel P ρ (.agg cs) x') (hk : cs.toList[f.offset]? = some v) (w : World) :
    ∃ v', (Instr.field t x' n).run P w = .ok v' w ∧ VRel P ρ v v' := by
  cases hx with
  | agg hs h ho =>
    rename_i ys
    obtain ⟨y, hy, hv⟩ := (VL.arr hs h).get hk
    exact ⟨y, by simp [Instr.field, run_underlying ht, hf, asAgg, run_part_one hd hna ys f.offset y (by simpa using hy)], hv⟩

theorem fldn_ok {t : TypeId} {fs : Array Field} {f : Field} {n : Nat} {d : TypeDesc} {i : TypeInfo} (ht : P.underlying t = some (.struct fs)) (hf : fs[n]? = some f) (hd : P.underlying f.type = some d)
    (ha : isAggD d = true) (hi : P.info? f.type = some i) {x' : Value} {l : List Value} {cs : Array Value} (hx : VRel P ρ (.agg cs) x')
    (hk : rd cs.toList f.offset i.size = some l) (w : World) : ∃ v', (Instr.field t x' n).run P w = .ok v' w ∧ VRel P ρ (.agg l.toArray) v' := by
  cases hx with
  | agg hs h ho =>
    rename_i ys
    exact ⟨_, by simp [Instr.field, run_underlying ht, hf, asAgg, run_part_agg hd ha hi ys f.offset], agg_part hs h ho hk⟩

theorem ida_ok {t e : TypeId} {len : Nat} {d : TypeDesc} {i : TypeInfo} (ht : P.underlying t = some (.array len e)) (hd : P.underlying e = some d) (hi : P.info? e = some i) (h1 : i.size = 1)
    (hna : isAggD d = false) {x' v : Value} {cs : Array Value} {k : IntKind} {j : Int} (hx : VRel P ρ (.agg cs) x') (hj : 0 ≤ j ∧ j < len) (hk : cs.toList[j.toNat]? = some v) (w : World) :
    ∃ v', (Instr.index t x' (.int k j)).run P w = .ok v' w ∧ VRel P ρ v v' := by
  cases hx with
  | agg hs h ho =>
    rename_i ys
    obtain ⟨y, hy, hv⟩ := (VL.arr hs h).get hk
    exact ⟨y, by simp [Instr.index, asIntOf, run_underlying ht, hj, sizeOf, typeInfo, hi, h1, run_part_one hd hna ys j.toNat y (by simpa using hy)], hv⟩

theorem idan_ok {t e : TypeId} {len : Nat} {d : TypeDesc} {i : TypeInfo} (ht : P.underlying t = some (.array len e)) (hd : P.underlying e = some d) (hi : P.info? e = some i)
    (ha : isAggD d = true) {x' : Value} {l : List Value} {cs : Array Value} {k : IntKind} {j : Int} (hx : VRel P ρ (.agg cs) x') (hj : 0 ≤ j ∧ j < len)
    (hk : rd cs.toList (j.toNat * i.size) i.size = some l) (w : World) : ∃ v', (Instr.index t x' (.int k j)).run P w = .ok v' w ∧ VRel P ρ (.agg l.toArray) v' := by
  cases hx with
  | agg hs h ho =>
    rename_i ys
    exact ⟨_, by simp [Instr.index, asIntOf, run_underlying ht, hj, sizeOf, typeInfo, hi, run_part_agg hd ha hi ys (j.toNat * i.size)], agg_part hs h ho hk⟩

theorem idS_ok {t : TypeId} (ht : P.underlying t = some .string) (s : ByteArray) {k : IntKind} {j : Int} {b : UInt8} (hj : 0 ≤ j) (hk : s.data.toList[j.toNat]? = some b) (w : World) :
    (Instr.index t (.string s) (.int k j)).run P w = .ok (.int .u8 b.toNat) w := by
  have hs : s[j.toNat]? = some b := by
    have hlt : j.toNat < s.data.toList.length := (List.getElem?_eq_some_iff.1 hk).1
    have hlt' : j.toNat < s.size := by simpa using hlt
    have := (List.getElem?_eq_some_iff.1 hk).2
    rw [getElem?_pos s j.toNat hlt']
    congr 1
  simp [Instr.index, asIntOf, run_underlying ht, hj, hs]

theorem fad_ok {t : TypeId} {fs : Array Field} {f : Field} {n : Nat} {i : TypeInfo} (ht : P.underlying t = some (.struct fs)) (hf : fs[n]? = some f) (hi : P.info? f.type = some i) (h0 : i.size ≠ 0) {x' : Value} {a : Addr}
    (hx : VRel P ρ (.pointer (some a)) x') (w : World) : ∃ v', (Instr.fieldAt t x' n).run P w = .ok v' w ∧ VRel P ρ (.pointer (some (addOff a f.offset))) v' := by
  obtain ⟨L, hs, hL, rfl⟩ := hx.pointer_inv
  refine ⟨.pointer (some ⟨L.block, L.off + a.off + f.offset, none⟩), ?_, ?_⟩
  · simp [Instr.fieldAt, run_underlying ht, hf, Instr.sureAddr, fieldPlace, sizeOf, typeInfo, hi, h0, Addr.add_lit]
  · have := VRel.ptr (P := P) (off := a.off + f.offset) hL
    simpa [addOff, Nat.add_assoc] using this

theorem iad_ok {t e : TypeId} {i : TypeInfo} (ht : P.underlying t = some (.slice e)) (hi : P.info? e = some i) {x' : Value} {a : Addr} {n c : Nat} {k : IntKind} {j : Int} (hx : VRel P ρ (.slice (some a) n c) x') (hj : 0 ≤ j ∧ j < n)
    (w : World) : ∃ v', (Instr.indexAt t x' (.int k j)).run P w = .ok v' w ∧ VRel P ρ (.pointer (some (addOff a (j.toNat * i.size)))) v' := by
  cases hx with
  | sl hL hn hc hs =>
    rename_i b off c' L
    refine ⟨.pointer (some ⟨L.block, L.off + off + j.toNat * i.size, none⟩), ?_, ?_⟩
    · simp [Instr.indexAt, asIntOf, run_underlying ht, hj, sizeOf, typeInfo, hi, Addr.add_lit]
    · have := VRel.ptr (P := P) (off := off + j.toNat * i.size) hL
      simpa [addOff, Nat.add_assoc] using this
  | sl0 => omega

theorem iada_ok {t e : TypeId} {i : TypeInfo} {len : Nat} (ht : P.underlying t = some (.array len e)) (hi : P.info? e = some i) {x' : Value} {a : Addr} {k : IntKind} {j : Int} (hx : VRel P ρ (.pointer (some a)) x') (hj : 0 ≤ j ∧ j < len)
    (w : World) : ∃ v', (Instr.indexAt t x' (.int k j)).run P w = .ok v' w ∧ VRel P ρ (.pointer (some (addOff a (j.toNat * i.size)))) v' := by
  obtain ⟨L, hs, hL, rfl⟩ := hx.pointer_inv
  refine ⟨.pointer (some ⟨L.block, L.off + a.off + j.toNat * i.size, none⟩), ?_, ?_⟩
  · simp [Instr.indexAt, Instr.sureAddr, asIntOf, run_underlying ht, hj, sizeOf, typeInfo, hi, Addr.add_lit]
  · have := VRel.ptr (P := P) (off := a.off + j.toNat * i.size) hL
    simpa [addOff, Nat.add_assoc] using this

/- EQUALITY -/
def EqTS (P : Program) (t : TypeId) : EqS → Prop
  | .int => ∃ k, P.underlying t = some (.int k)
  | .str => P.underlying t = some .string
  | .bool => P.underlying t = some .bool

theorem EqTS.one {t : TypeId} {k : EqS} (h : EqTS P t k) : ∃ d, P.underlying t = some d ∧ isAggD d = false := by
  cases k
  · obtain ⟨k, h⟩ := h; exact ⟨_, h, rfl⟩
  · exact ⟨_, h, rfl⟩
  · exact ⟨_, h, rfl⟩

theorem kEq1_inv {k : EqS} {x y : Value} {b : Bool} (h : kEq1 k x y = some b) : (∀ x', VRel P ρ x x' → x' = x) ∧ (∀ y', VRel P ρ y y' → y' = y) := by
  unfold kEq1 at h
  split at h
  · exact ⟨fun x' hx => by cases hx; rfl, fun y' hy => by cases hy; rfl⟩
  · exact ⟨fun x' hx => by cases hx; rfl, fun y' hy => by cases hy; rfl⟩
  · exact ⟨fun x' hx => by cases hx; rfl, fun y' hy => by cases hy; rfl⟩
  · cases h

theorem eq1_ok {t : TypeId} {k : EqS} (ht : EqTS P t k) {x y : Value} {b : Bool} (h : kEq1 k x y = some b) (d : Nat) (w : World) : (Op.equalIn (d + 1) t x y).run P w = .ok b w := by
  unfold kEq1 at h
  split at h
  · cases h; exact run_equalIn_bool' w d t _ _ ht
  · obtain ⟨k', ht⟩ := ht
    split at h
    · rename_i hk; subst hk; cases h; exact run_equalIn_int w d t _ _ _ _ ht
    · cases h
  · cases h; exact run_equalIn_string w d t _ _ ht
  · cases h

/-- the fields of a struct of scalars -/
def FlatF (P : Program) : List Field → Nat → List EqS → Prop
  | [], _, [] => True
  | f :: fs, j, k :: ks => f.name ≠ "_" ∧ f.offset = j ∧ EqTS P f.type k ∧ FlatF P fs (j + 1) ks
  | _, _, _ => False

theorem eqF_ok (d : Nat) {xs ys xs' ys' : Array Value} (hxs : VL P ρ xs.toList xs'.toList) (hys : VL P ρ ys.toList ys'.toList) : ∀ (fs : List Field) (j : Nat) (ks : List EqS) (b : Bool), FlatF P fs j ks →
    kEqL ks (xs.toList.drop j) (ys.toList.drop j) = some b → ∀ w : World, (Op.eqFields (d + 1) xs' ys' fs).run P w = .ok b w
  | [], j, ks, b, hf, hk, w => by
    cases ks with
    | cons k ks => exact hf.elim
    | nil =>
      cases hx : xs.toList.drop j <;> cases hy : ys.toList.drop j <;> simp [hx, hy, kEqL] at hk
      subst hk
      simp [Op.eqFields]
  | f :: fs, j, ks, b, hf, hk, w => by
    cases ks with
    | nil => exact hf.elim
    | cons k ks =>
      obtain ⟨hn, ho, ht, hf⟩ := hf
      cases hx : xs.toList.drop j with
      | nil => simp [hx, kEqL] at hk
      | cons x xr =>
        cases hy : ys.toList.drop j with
        | nil => simp [hx, hy, kEqL] at hk
        | cons y yr =>
          simp only [hx, hy, kEqL] at hk
          have hxj : xs.toList[j]? = some x := by have := congrArg (·[0]?) hx; simpa using this
          have hyj : ys.toList[j]? = some y := by have := congrArg (·[0]?) hy; simpa using this
          have hxr : xr = xs.toList.drop (j + 1) := by have := congrArg List.tail hx; simpa using this.symm
          have hyr : yr = ys.toList.drop (j + 1) := by have := congrArg List.tail hy; simpa using this.symm
          cases h1 : kEq1 k x y with
          | none => simp [h1] at hk
          | some r =>
            obtain ⟨ex, ey⟩ := kEq1_inv (P := P) (ρ := ρ) h1
            obtain ⟨x', hx', hvx⟩ := hxs.get hxj
            obtain ⟨y', hy', hvy⟩ := hys.get hyj
            rw [ex x' hvx] at hx'
            rw [ey y' hvy] at hy'
            obtain ⟨dd, hd, hna⟩ := ht.one
            have p1 := run_part_one hd hna xs' j x (by simpa using hx') w
            have p2 := run_part_one hd hna ys' j y (by simpa using hy') w
            have e1 := eq1_ok ht h1 d w
            simp only [h1, Option.bind_some] at hk
            simp only [Op.eqFields, hn, ne_eq, not_false_eq_true, if_true, ho, Sem.run_bind, p1, p2, e1, Result.andThen_ok]
            cases r with
            | false =>
              simp only [Bool.false_eq_true, if_false] at hk
              split at hk
              · cases hk; simp
              · cases hk
            | true =>
              simp only [if_true] at hk
              rw [hxr, hyr] at hk
              have := eqF_ok d hxs hys fs (j + 1) ks b hf hk w
              simpa using this

def EqT (P : Program) (t : TypeId) : EqK → Prop
  | .s k => EqTS P t k
  | .ptr => ∃ e, P.underlying t = some (.pointer e)
  | .slice => ∃ e, P.underlying t = some (.slice e)
  | .map => ∃ k e, P.underlying t = some (.map k e)
  | .func => ∃ a b c, P.underlying t = some (.func a b c)
  | .ifc => ∃ a, P.underlying t = some (.interface a)
  | .agg ks => P.eqGuardType P.depth t = false ∧
      ((∃ fs, P.underlying t = some (.struct fs) ∧ P.stoodInHeld t = false ∧ FlatF P fs.toList 0 ks) ∨
       (∃ n e k i, P.underlying t = some (.array n e) ∧ P.info? e = some i ∧ i.size = 1 ∧ EqTS P e k ∧ ks = List.replicate n k))

theorem run_eqArr (d : Nat) {e : TypeId} {i : TypeInfo} {k : EqS} (hi : P.info? e = some i) (h1 : i.size = 1) (he : EqTS P e k) {xs ys xs' ys' : Array Value} (hxs : VL P ρ xs.toList xs'.toList) (hys : VL P ρ ys.toList ys'.toList) :
    ∀ (n j : Nat) (b : Bool), kEqL (List.replicate n k) (xs.toList.drop j) (ys.toList.drop j) = some b → ∀ w : World,
      (ForIn.forIn (m := Sem) (List.range' j n) ((none : Option Bool), ()) fun (i_1 : Nat) (r : Option Bool × Unit) => do
        let a ← part e xs' (i_1 * i.size)
        let c ← part e ys' (i_1 * i.size)
        let r1 ← Op.equalIn (d + 1) e a c
        if (!r1) = true then pure (ForInStep.done (some false, ())) else pure (ForInStep.yield (none, ()))).run P w = .ok (if b then none else some false, ()) w := by
  intro n
  induction n with
  | zero =>
    intro j b hk w
    simp only [List.replicate_zero] at hk
    cases hx : xs.toList.drop j <;> cases hy : ys.toList.drop j <;> simp [hx, hy, kEqL] at hk
    subst hk
    simp
  | succ n ih =>
    intro j b hk w
    cases hx : xs.toList.drop j with
    | nil => simp [hx, kEqL, List.replicate_succ] at hk
    | cons x xr =>
      cases hy : ys.toList.drop j with
      | nil => simp [hx, hy, kEqL, List.replicate_succ] at hk
      | cons y yr =>
        simp only [hx, hy, kEqL, List.replicate_succ] at hk
        have hxj : xs.toList[j]? = some x := by have := congrArg (·[0]?) hx; simpa using this
        have hyj : ys.toList[j]? = some y := by have := congrArg (·[0]?) hy; simpa using this
        have hxr : xr = xs.toList.drop (j + 1) := by have := congrArg List.tail hx; simpa using this.symm
        have hyr : yr = ys.toList.drop (j + 1) := by have := congrArg List.tail hy; simpa using this.symm
        cases hq : kEq1 k x y with
        | none => simp [hq] at hk
        | some r =>
          obtain ⟨ex, ey⟩ := kEq1_inv (P := P) (ρ := ρ) hq
          obtain ⟨x', hx', hvx⟩ := hxs.get hxj
          obtain ⟨y', hy', hvy⟩ := hys.get hyj
          rw [ex x' hvx] at hx'
          rw [ey y' hvy] at hy'
          obtain ⟨dd, hd, hna⟩ := he.one
          have p1 := run_part_one hd hna xs' (j * i.size) x (by rw [h1]; simpa using hx') w
          have p2 := run_part_one hd hna ys' (j * i.size) y (by rw [h1]; simpa using hy') w
          have e1 := eq1_ok he hq d w
          simp only [hq, Option.bind_some] at hk
          simp only [List.range'_succ, List.forIn_cons, Sem.run_bind, p1, p2, e1, Result.andThen_ok]
          cases r with
          | false =>
            simp only [Bool.false_eq_true, if_false] at hk
            split at hk
            · cases hk; simp
            · cases hk
          | true =>
            simp only [if_true] at hk
            rw [hxr, hyr] at hk
            simpa using ih (j + 1) b hk w

set_option maxHeartbeats 1000000 in
theorem eqv_in {t : TypeId} {kk : EqK} (ht : EqT P t kk) {x y x' y' : Value} {b : Bool} (hx : VRel P ρ x x') (hy : VRel P ρ y y') (hk : kEq kk x y = some b) (d : Nat) (w : World) :
    (Op.equalIn (d + 2) t x' y').run P w = .ok b w := by
  unfold kEq at hk
  split at hk
  · obtain ⟨e1, e2⟩ := kEq1_inv (P := P) (ρ := ρ) hk
    rw [e1 x' hx, e2 y' hy]
    exact eq1_ok ht hk (d + 1) w
  · obtain ⟨e, ht⟩ := ht
    cases hx; cases hk
    cases hy <;> (rw [Op.equalIn]; simp [run_underlying ht])
  · obtain ⟨e, ht⟩ := ht
    cases hx; cases hk; cases hy
    (rw [Op.equalIn]; simp [run_underlying ht])
  · obtain ⟨e, ht⟩ := ht
    cases hx; cases hk
    cases hy <;> (rw [Op.equalIn]; simp [run_underlying ht])
  · obtain ⟨e, ht⟩ := ht
    cases hk
    cases hx <;> cases hy <;> (rw [Op.equalIn]; simp [run_underlying ht])
  · obtain ⟨k, e, ht⟩ := ht
    cases hx; cases hk
    cases hy <;> (rw [Op.equalIn]; simp [run_underlying ht])
  · obtain ⟨k, e, ht⟩ := ht
    cases hk
    cases hx; cases hy
    (rw [Op.equalIn]; simp [run_underlying ht])
  · obtain ⟨a, b, c, ht⟩ := ht
    cases hx; cases hk; cases hy
    (rw [Op.equalIn]; simp [run_underlying ht])
  · obtain ⟨a, b, c, ht⟩ := ht
    cases hk; cases hx; cases hy
    (rw [Op.equalIn]; simp [run_underlying ht])
  · obtain ⟨a, ht⟩ := ht
    cases hx; cases hk; cases hy
    (rw [Op.equalIn]; simp [run_underlying ht])
  · obtain ⟨a, ht⟩ := ht
    cases hk; cases hx; cases hy
    (rw [Op.equalIn]; simp [run_underlying ht])
  · rename_i ks xs ys
    obtain ⟨hgt, hor⟩ := ht
    cases hx with
    | agg hs1 h1 ho1 =>
      rename_i xs'
      cases hy with
      | agg hs2 h2 ho2 =>
        rename_i ys'
        rcases hor with ⟨fs, htt, hst, hfl⟩ | ⟨n, e, k, i, htt, hi, hi1, hek, rfl⟩
        · have hff : P.fieldsOf t = fs := by simp [Program.fieldsOf, htt]
          rw [run_equalIn_struct w (d + 1) t xs' ys' (by rw [hff]; exact htt) hst, hff]
          exact eqF_ok d (VL.arr hs1 h1) (VL.arr hs2 h2) fs.toList 0 ks b hfl (by simpa using hk) w
        · have := run_eqArr d hi hi1 hek (VL.arr hs1 h1) (VL.arr hs2 h2) n 0 b (by simpa using hk) w
          have hsz : ∀ w : World, (sizeOf e).run P w = .ok i.size w := fun w => by simp [sizeOf, typeInfo, hi]
          rw [Op.equalIn]
          simp only [Sem.run_bind, run_underlying htt, Result.andThen_ok, hsz, Std.Legacy.Range.forIn_eq_forIn_range', Std.Legacy.Range.size, Nat.sub_zero, Nat.add_sub_cancel, Nat.div_one, this]
          cases b <;> simp
  · cases hk

end
end Go.Proofs.YtjgpbhodbgjggaaGreat.K
/- The last of K's operations: equality as an operation, maps, interfaces. -/
set_option linter.unusedVariables false
set_option linter.unusedSimpArgs false
namespace Go.Proofs.YtjgpbhodbgjggaaGreat.K
open Go Go.RowKit

section
variable {P : Program} {B : Fz} {w0 w : World} {ρ : Rho} {H : Heap}

theorem eqv_ok {t : TypeId} {kk : EqK} (ht : EqT P t kk) (h1 : kk ≠ .s .int) (h2 : kk ≠ .s .str) {x y x' y' : Value} {b : Bool} (hx : VRel P ρ x x') (hy : VRel P ρ y y') (hk : kEq kk x y = some b) (neg : Bool)
    (ox oy : Operand) (hc : kk = .ifc → ∃ v, oy = .const v) (w : World) :
    (do eqGuard (if neg then .neq else .eql) t ox oy x' y'; binOp (if neg then .neq else .eql) t x' y').run P w = .ok (.bool (b != neg)) w := by
  have he := eqv_in ht hx hy hk 9998 w
  have he' : (Op.equal t x' y').run P w = .ok b w := he
  unfold kEq at hk
  split at hk
  · rename_i q
    cases q with
    | int => exact absurd rfl h1
    | str => exact absurd rfl h2
    | bool =>
      unfold kEq1 at hk
      split at hk
      · cases hx; cases hy
        cases neg <;> simp [eqGuard, binOp, he']
      · rename_i h; cases h
      · rename_i h; cases h
      · cases hk
  · cases hx
    cases hy <;> cases neg <;> simp [eqGuard, binOp, he']
  · cases hx; cases hy
    cases neg <;> simp [eqGuard, binOp, he']
  · cases hx
    cases hy <;> cases neg <;> simp [eqGuard, binOp, he']
  · cases hx <;> cases hy <;> cases neg <;> simp [eqGuard, binOp, he']
  · cases hx
    cases hy <;> cases neg <;> simp [eqGuard, binOp, he']
  · cases hx; cases hy
    cases neg <;> simp [eqGuard, binOp, he']
  · cases hx; cases hy
    cases neg <;> simp [eqGuard, binOp, he']
  · cases hx; cases hy
    cases neg <;> simp [eqGuard, binOp, he']
  · cases hx; cases hy
    obtain ⟨v, rfl⟩ := hc rfl
    cases neg <;> simp [eqGuard, binOp, he']
  · cases hx; cases hy
    cases neg <;> simp [eqGuard, binOp, he']
  · cases hx; cases hy
    have hgt := ht.1
    cases neg <;> simp [run_eqGuard_agg _ _ _ _ _ _ _ hgt, binOp, he']
  · cases hk

/- KEYS -/
theorem kKey1_eq {k : EqS} {x x' : Value} (h : kKey1 k x = true) (hx : VRel P ρ x x') : x' = x := by
  unfold kKey1 at h
  split at h <;> first
    | (cases h; done)
    | (cases hx; rfl)
theorem kKeyL_eq : ∀ {ks : List EqS} {xs xs' : List Value}, kKeyL ks xs = true → VL P ρ xs xs' → xs' = xs
  | [], [], xs', _, hv => List.eq_nil_of_length_eq_zero (by have := hv.1; simpa using this.symm)
  | [], _ :: _, _, h, _ => by simp [kKeyL] at h
  | _ :: _, [], _, h, _ => by simp [kKeyL] at h
  | k :: ks, x :: xs, xs', h, hv => by
    cases xs' with
    | nil => have := hv.1; simp at this
    | cons y ys =>
      simp only [kKeyL, Bool.and_eq_true] at h
      have h0 := hv.2 0 x y rfl rfl
      rw [kKey1_eq h.1 h0, kKeyL_eq h.2 (xs' := ys) ⟨by have := hv.1; simpa using this, fun i a b ha hb => hv.2 (i + 1) a b (by simpa using ha) (by simpa using hb)⟩]
theorem kKey_eq {kk : EqK} {x x' : Value} (h : kKey kk x = true) (hx : VRel P ρ x x') : x' = x := by
  unfold kKey at h
  split at h
  · exact kKey1_eq h hx
  · cases hx with
    | agg hs hv ho => rw [Array.ext' (kKeyL_eq h (VL.arr hs hv))]
  · cases h

theorem bits1 {k : EqS} {x : Value} (h : kKey1 k x = true) (n : Nat) : Instr.sameBits n x x = true := by
  unfold kKey1 at h
  split at h <;> first
    | (cases h; done)
    | (cases n <;> simp [Instr.sameBits, beq_toListBytes]; done)
theorem bitsL (n : Nat) : ∀ {ks : List EqS} {xs : List Value}, kKeyL ks xs = true → ((xs.zip xs).all fun (x, y) => Instr.sameBits n x y) = true
  | [], [], _ => rfl
  | [], _ :: _, h => by simp [kKeyL] at h
  | _ :: _, [], h => by simp [kKeyL] at h
  | k :: ks, x :: xs, h => by
    simp only [kKeyL, Bool.and_eq_true] at h
    simp only [List.zip_cons_cons, List.all_cons, Bool.and_eq_true]
    exact ⟨bits1 h.1 n, bitsL n h.2⟩
theorem bits {kk : EqK} {x : Value} (h : kKey kk x = true) (n : Nat) : Instr.sameBits (n + 1) x x = true := by
  unfold kKey at h
  split at h
  · exact bits1 h _
  · simp only [Instr.sameBits, Bool.and_eq_true]
    exact ⟨by simp, bitsL n h⟩
  · cases h

theorem kEq1_true {k : EqS} {x y : Value} (h : kEq1 k x y = some true) : x = y := by
  unfold kEq1 at h
  split at h
  · simp at h; rw [h]
  · split at h
    · rename_i hk; simp at h; rw [hk, h]
    · cases h
  · rename_i a b
    simp at h
    have : a = b := by
      rw [ByteArray.toList_eq, ByteArray.toList_eq] at h
      exact ByteArray.ext (Array.ext' h)
    rw [this]
  · cases h
theorem kEqL_true : ∀ {ks : List EqS} {xs ys : List Value}, kEqL ks xs ys = some true → xs = ys
  | [], [], [], _ => rfl
  | k :: ks, x :: xs, y :: ys, h => by
    simp only [kEqL] at h
    cases h1 : kEq1 k x y with
    | none => simp [h1] at h
    | some b =>
      cases b with
      | true => simp [h1] at h; rw [kEq1_true h1, kEqL_true h]
      | false =>
        simp only [h1, Option.bind_some, Bool.false_eq_true, if_false] at h
        split at h <;> simp at h
  | [], _ :: _, _, h => by simp [kEqL] at h
  | [], [], _ :: _, h => by simp [kEqL] at h
  | _ :: _, [], _, h => by simp [kEqL] at h
  | _ :: _, _ :: _, [], h => by simp [kEqL] at h
theorem kEq_true {kk : EqK} {x y : Value} (hk : kKey kk x = true) (h : kEq kk x y = some true) : x = y := by
  cases kk with
  | s k => exact kEq1_true h
  | agg ks =>
    cases x <;> simp only [kKey] at hk <;> try cases hk
    cases y <;> simp only [kEq] at h <;> try cases h
    rw [Array.ext' (kEqL_true h)]
  | _ => simp [kKey] at hk

theorem run_forUnit {α : Type} (f : α → Sem (ForInStep PUnit)) : ∀ (l : List α), (∀ a ∈ l, ∀ w : World, (f a).run P w = .ok (.yield ⟨⟩) w) → ∀ w : World,
    (ForIn.forIn (m := Sem) l PUnit.unit fun a _ => f a).run P w = .ok ⟨⟩ w
  | [], _, w => by simp
  | a :: l, h, w => by
    simp only [List.forIn_cons, Sem.run_bind, h a (by simp) w, Result.andThen_ok]
    exact run_forUnit f l (fun b hb => h b (by simp [hb])) w

theorem chk1 {t : TypeId} {k : EqS} (ht : EqTS P t k) {x : Value} (h : kKey1 k x = true) (em : Bool) (n : Nat) (w : World) : (Instr.checkKey em (n + 1) t x).run P w = .ok () w := by
  unfold kKey1 at h
  split at h
  · obtain ⟨k', ht⟩ := ht; rw [Instr.checkKey]; simp [run_underlying ht]
  · rw [Instr.checkKey]; simp [run_underlying (show P.underlying t = some .string from ht)]
  · rw [Instr.checkKey]; simp [run_underlying (show P.underlying t = some .bool from ht)]
  · cases h

theorem flat_at : ∀ {fs : List Field} {j : Nat} {ks : List EqS}, FlatF P fs j ks → fs.length = ks.length ∧ ∀ (i : Nat) f, fs[i]? = some f → f.name ≠ "_" ∧ f.offset = j + i ∧ ∃ k, ks[i]? = some k ∧ EqTS P f.type k
  | [], j, [], _ => ⟨rfl, fun i f h => by simp at h⟩
  | [], _, _ :: _, h => h.elim
  | _ :: _, _, [], h => h.elim
  | f :: fs, j, k :: ks, ⟨h1, h2, h3, h4⟩ => by
    obtain ⟨a, b⟩ := flat_at h4
    refine ⟨by simp [a], fun i g hg => ?_⟩
    cases i with
    | zero => simp at hg; subst hg; exact ⟨h1, by simpa using h2, k, rfl, h3⟩
    | succ i =>
      simp at hg
      obtain ⟨c1, c2, c3⟩ := b i g hg
      exact ⟨c1, by omega, by simpa using c3⟩

theorem keyL_at : ∀ {ks : List EqS} {xs : List Value}, kKeyL ks xs = true → ∀ (i : Nat) k, ks[i]? = some k → ∃ x, xs[i]? = some x ∧ kKey1 k x = true
  | [], [], _, i, k, h => by simp at h
  | [], _ :: _, h, _, _, _ => by simp [kKeyL] at h
  | _ :: _, [], h, _, _, _ => by simp [kKeyL] at h
  | k :: ks, x :: xs, h, i, q, hq => by
    simp only [kKeyL, Bool.and_eq_true] at h
    cases i with
    | zero => simp at hq; subst hq; exact ⟨x, rfl, h.1⟩
    | succ i => simp at hq; simpa using keyL_at h.2 i q hq

theorem chk_ok {t : TypeId} {kk : EqK} (ht : EqT P t kk) {x : Value} (h : kKey kk x = true) (em : Bool) (n : Nat) (w : World) : (Instr.checkKey em (n + 2) t x).run P w = .ok () w := by
  unfold kKey at h
  split at h
  · exact chk1 ht h em (n + 1) w
  · rename_i ks xs
    obtain ⟨_, ⟨fs, htt, _, hfl⟩ | ⟨len, e, k, i, htt, hi, hi1, hek, rfl⟩⟩ := ht
    · obtain ⟨hlen, hat⟩ := flat_at hfl
      rw [Instr.checkKey]
      simp only [Sem.run_bind, run_underlying htt, Result.andThen_ok]
      rw [← Array.forIn_toList]
      have := run_forUnit (P := P) (fun f : Field => if f.name ≠ "_" then do
          let a ← part f.type xs f.offset
          Instr.checkKey em (n + 1) f.type a
          pure (ForInStep.yield PUnit.unit) else pure (ForInStep.yield PUnit.unit)) fs.toList (fun f hf w => by
        obtain ⟨j, hj⟩ := List.mem_iff_getElem?.1 hf
        obtain ⟨c1, c2, k, hk, hks⟩ := hat j f hj
        obtain ⟨x, hx, hkx⟩ := keyL_at h j k hk
        obtain ⟨d, hd, hna⟩ := hks.one
        have p1 := run_part_one hd hna xs f.offset x (by rw [c2]; simpa using hx) w
        simp [c1, p1, chk1 hks hkx]) w
      simp at this ⊢
      rw [this]; rfl
    · rw [Instr.checkKey]
      have hsz : ∀ w : World, (sizeOf e).run P w = .ok i.size w := fun w => by simp [sizeOf, typeInfo, hi]
      simp only [Sem.run_bind, run_underlying htt, Result.andThen_ok, Std.Legacy.Range.forIn_eq_forIn_range', Std.Legacy.Range.size, Nat.sub_zero, Nat.add_sub_cancel, Nat.div_one]
      have := run_forUnit (P := P) (fun j : Nat => do
          let a ← sizeOf e
          let a ← part e xs (j * a)
          Instr.checkKey em (n + 1) e a
          pure (ForInStep.yield PUnit.unit)) (List.range' 0 len) (fun j hj w => by
        have hjl : j < len := by have := List.mem_range'_1.1 hj; omega
        obtain ⟨x, hx, hkx⟩ := keyL_at h j k (by simp [hjl])
        obtain ⟨d, hd, hna⟩ := hek.one
        have p1 := run_part_one hd hna xs (j * i.size) x (by rw [hi1]; simpa using hx) w
        simp [hsz, p1, chk1 hek hkx]) w
      simp at this ⊢
      rw [this]; rfl
  · cases h

/- FINDING AN ENTRY -/
def MR (P : Program) (ρ : Rho) (es es' : List MapEntry) : Prop := es'.length = es.length ∧ ∀ (i : Nat) x y, es[i]? = some x → es'[i]? = some y → ERelm P ρ x y

def foundV (r : Option (Nat × MapEntry)) (es' : List MapEntry) : Option (Nat × Value) := r.bind fun p => (es'[p.1]?).map fun e => (p.1, e.val)

theorem MR.tail {e e' : MapEntry} {es es' : List MapEntry} (h : MR P ρ (e :: es) (e' :: es')) : ERelm P ρ e e' ∧ MR P ρ es es' :=
  ⟨h.2 0 e e' rfl rfl, by have := h.1; simpa using this, fun i x y hx hy => h.2 (i + 1) x y (by simpa using hx) (by simpa using hy)⟩

theorem find_some {kk : EqK} {k : Value} : ∀ {es : List MapEntry} {i : Nat} {r : Option (Nat × MapEntry)}, kFind kk k es i = some r → ∀ p, r = some p → ∃ j, p.1 = i + j ∧ es[j]? = some p.2 ∧ kEq kk k p.2.key = some true
  | [], i, r, h, p, hp => by simp [kFind] at h; subst h; cases hp
  | e :: es, i, r, h, p, hp => by
    simp only [kFind] at h
    cases h1 : kEq kk k e.key with
    | none => simp [h1] at h
    | some b =>
      cases b with
      | true => simp [h1] at h; subst h; cases hp; exact ⟨0, rfl, rfl, h1⟩
      | false =>
        simp [h1] at h
        obtain ⟨j, a, b, c⟩ := find_some h p hp
        exact ⟨j + 1, by omega, by simpa using b, c⟩

theorem now_ok {t : TypeId} {q : EqS} {d : TypeDesc} (ht : EqTS P t q) (hd : P.underlying t = some d) {k : Value} : ∀ {es es' : List MapEntry} {i : Nat} {r : Option (Nat × MapEntry)}, MR P ρ es es' → kFind (.s q) k es i = some r →
    Instr.findNow d k es' i = some (r.bind fun p => (es'[p.1 - i]?).map fun e => (p.1, e.val))
  | [], es', i, r, hm, h => by
    have : es' = [] := List.eq_nil_of_length_eq_zero (by have := hm.1; simpa using this)
    subst this
    simp [kFind] at h; subst h; simp [Instr.findNow]
  | e :: es, [], i, r, hm, h => by have := hm.1; simp at this
  | e :: es, e' :: es', i, r, hm, h => by
    obtain ⟨he, hm'⟩ := hm.tail
    simp only [kFind, kEq] at h
    cases h1 : kEq1 q k e.key with
    | none => simp [h1] at h
    | some b =>
      have hkey : e'.key = e.key := (kEq1_inv (P := P) (ρ := ρ) h1).2 _ he.1
      have hsn : Instr.sameNow d k e'.key = some b := by
        rw [hkey]
        generalize e.key = y at h1
        cases q with
        | int =>
          obtain ⟨kk, ht⟩ := ht; rw [ht] at hd; cases hd
          unfold kEq1 at h1
          split at h1 <;> first
            | (rename_i h; cases h; done)
            | (simp only [Instr.sameNow]; exact h1)
            | cases h1
        | str =>
          rw [show P.underlying t = some .string from ht] at hd; cases hd
          unfold kEq1 at h1
          split at h1 <;> first
            | (rename_i h; cases h; done)
            | (simp only [Instr.sameNow, beq_toListBytes]; exact h1)
            | cases h1
        | bool =>
          rw [show P.underlying t = some .bool from ht] at hd; cases hd
          unfold kEq1 at h1
          split at h1 <;> first
            | (rename_i h; cases h; done)
            | (simp only [Instr.sameNow]; exact h1)
            | cases h1
      simp only [h1, Option.bind_some] at h
      simp only [Instr.findNow, hsn]
      cases b with
      | true => simp at h; subst h; simp
      | false =>
        simp only [Bool.false_eq_true, if_false] at h
        rw [now_ok ht hd hm' h]
        cases r with
        | none => rfl
        | some p =>
          obtain ⟨j, hj, _, _⟩ := find_some h p rfl
          simp only [Option.bind_some]
          rw [show p.1 - i = (p.1 - (i + 1)) + 1 by omega]
          simp

theorem asking_ok {t : TypeId} {kk : EqK} (ht : EqT P t kk) {k k' : Value} (hk : VRel P ρ k k') : ∀ {es es' : List MapEntry} {i : Nat} {r : Option (Nat × MapEntry)}, MR P ρ es es' → kFind kk k es i = some r → ∀ w : World,
    (Instr.findAsking t k' es' i).run P w = .ok (r.bind fun p => (es'[p.1 - i]?).map fun e => (p.1, e.val)) w
  | [], es', i, r, hm, h, w => by
    have : es' = [] := List.eq_nil_of_length_eq_zero (by have := hm.1; simpa using this)
    subst this
    simp [kFind] at h; subst h; simp [Instr.findAsking]
  | e :: es, [], i, r, hm, h, w => by have := hm.1; simp at this
  | e :: es, e' :: es', i, r, hm, h, w => by
    obtain ⟨he, hm'⟩ := hm.tail
    simp only [kFind] at h
    cases h1 : kEq kk k e.key with
    | none => simp [h1] at h
    | some b =>
      have he' : (Op.equal t k' e'.key).run P w = .ok b w := eqv_in ht hk he.1 h1 9998 w
      simp only [h1, Option.bind_some] at h
      simp only [Instr.findAsking, Sem.run_bind, he', Result.andThen_ok]
      cases b with
      | true => simp at h; subst h; simp
      | false =>
        simp only [Bool.false_eq_true, if_false] at h ⊢
        rw [asking_ok ht hk hm' h w]
        cases r with
        | none => rfl
        | some p =>
          obtain ⟨j, hj, _, _⟩ := find_some h p rfl
          simp only [Option.bind_some]
          rw [show p.1 - i = (p.1 - (i + 1)) + 1 by omega]
          simp

theorem findKey_ok {t : TypeId} {kk : EqK} (ht : EqT P t kk) {k : Value} (hkey : kKey kk k = true) {es es' : List MapEntry} {r : Option (Nat × MapEntry)} (hm : MR P ρ es es') (h : kFind kk k es 0 = some r) (w : World) :
    (Instr.findKey t k es').run P w = .ok (foundV r es') w := by
  have hv : VRel P ρ k k := by
    unfold kKey at hkey
    split at hkey
    · unfold kKey1 at hkey
      split at hkey <;> first
        | exact .int _ _
        | exact .string _
        | exact .bool _
        | cases hkey
    · rename_i ks xs
      have h1 : ∀ (i : Nat) x, xs[i]? = some x → ∃ k, kKey1 k x = true := by
        intro i x hx
        have : ∀ (ks : List EqS) (l : List Value), kKeyL ks l = true → ∀ (i : Nat) x, l[i]? = some x → ∃ k, kKey1 k x = true := by
          intro ks l
          induction l generalizing ks with
          | nil => intro _ i x hx; simp at hx
          | cons y l ih =>
            intro h i x hx
            cases ks with
            | nil => simp [kKeyL] at h
            | cons k ks =>
              simp only [kKeyL, Bool.and_eq_true] at h
              cases i with
              | zero => simp at hx; subst hx; exact ⟨k, h.1⟩
              | succ i => simp at hx; exact ih ks h.2 i x hx
        exact this ks xs.toList hkey i x (by simpa using hx)
      have h2 : ∀ {k : EqS} {x : Value}, kKey1 k x = true → VRel P ρ x x ∧ oneC x = true := by
        intro k x h
        unfold kKey1 at h
        split at h <;> first
          | exact ⟨.int _ _, rfl⟩
          | exact ⟨.string _, rfl⟩
          | exact ⟨.bool _, rfl⟩
          | cases h
      exact .agg rfl (fun i x y hx hy => by rw [hx] at hy; cases hy; obtain ⟨k, hk⟩ := h1 i x hx; exact (h2 hk).1) (fun i x hx => by obtain ⟨k, hk⟩ := h1 i x hx; exact (h2 hk).2)
    · cases hkey
  unfold Instr.findKey
  cases kk with
  | s q =>
    obtain ⟨d, hd, _⟩ := EqTS.one (P := P) ht
    have := now_ok (P := P) (ρ := ρ) ht hd hm h
    simp only [Sem.run_bind, run_underlying hd, Result.andThen_ok, this, Sem.run_pure]
    rfl
  | agg ks =>
    have hdd : ∃ d, P.underlying t = some d ∧ ∀ v y, Instr.sameNow d (.agg v) y = none := by
      obtain ⟨_, ⟨fs, htt, _⟩ | ⟨len, e, k, i, htt, _⟩⟩ := ht
      · exact ⟨_, htt, fun v y => by simp [Instr.sameNow]⟩
      · exact ⟨_, htt, fun v y => by simp [Instr.sameNow]⟩
    obtain ⟨d, hd, hsn⟩ := hdd
    cases k <;> simp only [kKey] at hkey <;> try cases hkey
    rename_i xs
    simp only [Sem.run_bind, run_underlying hd, Result.andThen_ok]
    cases es' with
    | nil =>
      have : es = [] := List.eq_nil_of_length_eq_zero (by have := hm.1; simpa using this.symm)
      subst this
      simp [kFind] at h
      subst h
      simp [Instr.findNow, foundV]
    | cons e' es' =>
      simp only [Instr.findNow, hsn]
      have := asking_ok ht hv hm h w
      rw [this]
      simp [foundV]
  | _ => simp [kKey] at hkey

/- MAPS -/
theorem map_inv {b : Nat} {es : List MapEntry} {clock : Nat} {L : Loc} (h : HRel P B w0 ρ H w) (hg : H.get b = .map es clock) (hL : ρ[b]? = some L) :
    ∃ es' : Array MapEntry, w.heap[L.block]? = some (.map es' clock) ∧ MR P ρ es es'.toList := by
  have := h.blk b L hL
  rw [hg] at this
  obtain ⟨es', h1, h2, h3⟩ := this
  exact ⟨es', h1, by simpa using h2, fun i x y hx hy => h3 i x y hx (by simpa using hy)⟩

theorem run_getMap {r : Nat} {es : Array MapEntry} {c : Nat} (hr : w.heap[r]? = some (.map es c)) : (getObj r).run P w = .ok (.map es c) w := by
  simp [getObj, Sem.run, hr]

theorem set_map (h : HRel P B w0 ρ H w) {b : Nat} {es es2 : List MapEntry} {c c2 : Nat} {L : Loc} (hg : H.get b = .map es c) (hL : ρ[b]? = some L) {es' : Array MapEntry} (hm : MR P ρ es2 es'.toList) :
    ∃ w', (setObj L.block (.map es' c2)).run P w = .ok () w' ∧ HRel P B w0 ρ (H.put b (.map es2 c2)) w' := by
  obtain ⟨es1, h1, _⟩ := map_inv h hg hL
  have hlt : L.block < w.heap.size := (Array.getElem?_eq_some_iff.1 h1).1
  refine ⟨{ w with heap := w.heap.setIfInBounds L.block (.map es' c2) }, by simp [setObj, Sem.run, h1], ?_⟩
  have hB := h.own b L hL (by rw [hg]; rfl)
  have hG := h.ghost b L hL (by rw [hg]; rfl)
  refine h.put (b := b) (by rw [hg]; rfl) hL ?_ ⟨rfl, rfl, rfl, by simp, fun k hk => ?_⟩ (fun i hi => ?_)
  · exact ⟨es', by simp [hlt], by simpa using hm.1, fun i x y hx hy => hm.2 i x y hx (by simpa using hy)⟩
  · show (w.heap.setIfInBounds L.block _)[k]? = _
    rw [Array.getElem?_setIfInBounds_ne (fun e => by subst e; exact hk.elim hB hG)]
  · show (w.heap.setIfInBounds L.block _)[i]? = _
    rw [Array.getElem?_setIfInBounds_ne (fun e => hi e.symm)]

theorem VRel.map_inv {x' : Value} {r : Nat} (h : VRel P ρ (.map (some r)) x') : ∃ L, ρ[r]? = some L ∧ x' = .map (some L.block) := by
  cases h with | map hb => exact ⟨_, hb, rfl⟩

theorem MR.set {es es' : List MapEntry} (h : MR P ρ es es') {e e' : MapEntry} (he : ERelm P ρ e e') (i : Nat) : MR P ρ (es.set i e) (es'.set i e') :=
  ⟨by simp [h.1], fun j x y hx hy => by
    rw [List.getElem?_set] at hx hy
    split at hx
    · rename_i hij
      rw [if_pos hij] at hy
      split at hx
      · split at hy
        · cases hx; cases hy; exact he
        · cases hy
      · cases hx
    · rename_i hij
      rw [if_neg hij] at hy
      exact h.2 j x y hx hy⟩
theorem MR.push {es es' : List MapEntry} (h : MR P ρ es es') {e e' : MapEntry} (he : ERelm P ρ e e') : MR P ρ (es ++ [e]) (es' ++ [e']) :=
  ⟨by simp [h.1], fun j x y hx hy => by
    rcases Nat.lt_or_ge j es.length with hlt | hge
    · rw [List.getElem?_append_left hlt] at hx
      rw [List.getElem?_append_left (by rw [h.1]; exact hlt)] at hy
      exact h.2 j x y hx hy
    · rw [List.getElem?_append_right hge] at hx
      rw [List.getElem?_append_right (by rw [h.1]; exact hge), h.1] at hy
      cases hj : j - es.length with
      | zero => rw [hj] at hx hy; simp at hx hy; subst hx; subst hy; exact he
      | succ n => rw [hj] at hx; simp at hx⟩

theorem modify_set (es : Array MapEntry) (i : Nat) (e : MapEntry) (f : MapEntry → MapEntry) (h : es[i]? = some e) : (es.modify i f).toList = es.toList.set i (f e) := by
  rw [Array.toList_modify]
  apply List.ext_getElem?
  intro j
  have h' : es.toList[i]? = some e := by simpa using h
  have hlt : i < es.toList.length := (List.getElem?_eq_some_iff.1 h').1
  rw [List.getElem?_modify, List.getElem?_set]
  by_cases hij : i = j
  · subst hij; rw [h', if_pos rfl, if_pos hlt]; simp
  · rw [if_neg hij]; simp [hij]

theorem found {kk : EqK} {k : Value} {es : List MapEntry} {es' : Array MapEntry} (hm : MR P ρ es es'.toList) (hkey : kKey kk k = true) {i : Nat} {e : MapEntry} (hf : kFind kk k es 0 = some (some (i, e))) :
    ∃ e', es'[i]? = some e' ∧ ERelm P ρ e e' ∧ e.key = k ∧ e'.key = k ∧ foundV (some (i, e)) es'.toList = some (i, e'.val) ∧ es[i]? = some e := by
  obtain ⟨j, hj, he, hq⟩ := find_some hf (i, e) rfl
  simp at hj
  subst hj
  simp only at he hq
  have hlt : i < es'.toList.length := by rw [hm.1]; exact (List.getElem?_eq_some_iff.1 he).1
  have hlt' : i < es'.size := by simpa using hlt
  have hkk := kEq_true hkey hq
  have hrel := hm.2 i e es'[i] he (by simp [hlt'])
  refine ⟨es'[i], by simp [hlt'], hrel, hkk.symm, ?_, by simp [foundV, hlt'], he⟩
  exact kKey_eq hkey (by have := hrel.1; rw [← hkk] at this; exact this)

theorem lkp_ok {t kt et : TypeId} {kk : EqK} {i : TypeInfo} {z : Value} (ht : P.underlying t = some (.map kt et)) (hkt : EqT P kt kk) (hi : P.info? et = some i) (hz : i.zero = some z) (hzg : VRel P [] z z)
    {m m' k k' v : Value} {ok : Bool} (h : HRel P B w0 ρ H w) (hm : VRel P ρ m m') (hk : VRel P ρ k k')
    (hr : ((kMap H m).bind fun p => if kKey kk k then (kFind kk k p.1 0).map fun
      | some (_, en) => (if ok then Value.tuple #[en.val, .bool true] else en.val, H)
      | none => (if ok then .tuple #[z, .bool false] else z, H) else none) = some (v, H)) : Gives P B w0 ρ (Instr.lookup t m' k' ok) w v H := by
  cases hkm : kMap H m with
  | none => simp [hkm] at hr
  | some p =>
    obtain ⟨es, c⟩ := p
    simp only [hkm, Option.bind_some] at hr
    split at hr
    · rename_i hkey
      have hke := kKey_eq hkey hk
      subst hke
      cases hf : kFind kk k' es 0 with
      | none => simp [hf] at hr
      | some r =>
        have hesr : ∃ es' : Array MapEntry, MR P ρ es es'.toList ∧ ((m' = .map none ∧ es' = #[]) ∨ ∃ r c, m' = .map (some r) ∧ w.heap[r]? = some (.map es' c)) := by
          unfold kMap at hkm
          split at hkm
          · rename_i r
            obtain ⟨L, hL, rfl⟩ := hm.map_inv
            split at hkm
            · rename_i es0 c0 hg
              cases hkm
              obtain ⟨es', h1, h2⟩ := map_inv h hg hL
              exact ⟨es', h2, .inr ⟨_, _, rfl, h1⟩⟩
            · cases hkm
          · cases hkm
            cases hm
            exact ⟨#[], ⟨rfl, fun i x y hx => by simp at hx⟩, .inl ⟨rfl, rfl⟩⟩
          · cases hkm
        obtain ⟨es', hmr, hK⟩ := hesr
        have hck := chk_ok hkt hkey es'.isEmpty 9998
        have hfk := findKey_ok hkt hkey hmr hf
        simp only [hf, Option.map_some] at hr
        have hrun : (Instr.lookup t m' k' ok).run P w = (do
            Instr.checkKey es'.isEmpty 10000 kt k'
            let (v, b) ← match ← Instr.findKey kt k' es'.toList with
              | some (_, v) => pure (v, true)
              | none => pure (← zeroValue et, false)
            pure (if ok then .tuple #[v, .bool b] else v) : Sem Value).run P w := by
          rcases hK with ⟨rfl, rfl⟩ | ⟨r, c, rfl, h1⟩
          · unfold Instr.lookup
            simp only [Sem.run_bind, run_underlying ht, Result.andThen_ok, Sem.run_pure]
            rfl
          · unfold Instr.lookup
            simp only [Sem.run_bind, run_underlying ht, Result.andThen_ok, Sem.run_pure, run_getMap h1]
            rfl
        cases r with
        | none =>
          simp only [Option.some.injEq, Prod.mk.injEq] at hr
          obtain ⟨rfl, _⟩ := hr
          refine Gives.same h (v' := if ok then .tuple #[z, .bool false] else z) ?_ ?_
          · rw [hrun]
            simp [hck, hfk, foundV, zeroValue, typeInfo, hi, hz]
          · cases ok
            · exact hzg.mono List.nil_prefix
            · exact .tuple rfl (fun j x y hx hy => by
                rcases j with _ | _ | j
                · simp at hx hy; subst hx; subst hy; exact hzg.mono List.nil_prefix
                · simp at hx hy; subst hx; subst hy; exact .bool _
                · simp at hx)
        | some p =>
          obtain ⟨j, e⟩ := p
          obtain ⟨e', he', hrel, _, _, hfv, _⟩ := found hmr hkey hf
          simp only [Option.some.injEq, Prod.mk.injEq] at hr
          obtain ⟨rfl, _⟩ := hr
          refine Gives.same h (v' := if ok then .tuple #[e'.val, .bool true] else e'.val) ?_ ?_
          · rw [hrun]
            simp [hck, hfk, hfv]
          · cases ok
            · exact hrel.2.1
            · exact .tuple rfl (fun j x y hx hy => by
                rcases j with _ | _ | j
                · simp at hx hy; subst hx; subst hy; exact hrel.2.1
                · simp at hx hy; subst hx; subst hy; exact .bool _
                · simp at hx)
    · cases hr

theorem stays {kk : EqK} {k : Value} (hkey : kKey kk k = true) (w : World) : (Instr.keyThatStays k k).run P w = .ok k w := by
  simp [Instr.keyThatStays, bits hkey 9999]

theorem mup_ok {t kt et : TypeId} {kk : EqK} (ht : P.underlying t = some (.map kt et)) (hkt : EqT P kt kk) {m m' k k' v v' : Value} {H' : Heap} (h : HRel P B w0 ρ H w) (hm : VRel P ρ m m') (hk : VRel P ρ k k') (hv : VRel P ρ v v')
    (hr : kMup H kk m k v = some H') : GivesU P B w0 ρ (Instr.mapUpdate t m' k' v') w H' := by
  unfold kMup at hr
  split at hr
  · rename_i r
    obtain ⟨L, hL, rfl⟩ := hm.map_inv
    split at hr
    · rename_i es c hg
      split at hr
      · rename_i hkey
        have hke := kKey_eq hkey hk
        subst hke
        obtain ⟨es', h1, hmr⟩ := map_inv h hg hL
        cases hf : kFind kk k' es 0 with
        | none => simp [hf] at hr
        | some q =>
          have hfk := findKey_ok hkt hkey hmr hf
          have hck := chk_ok hkt hkey false 9998
          simp only [hf, Option.map_some, Option.some.injEq] at hr
          cases q with
          | none =>
            simp only at hr
            subst hr
            have he : ERelm P ρ { key := k', val := v, born := c } { key := k', val := v', born := c } := ⟨hk, hv, rfl⟩
            obtain ⟨w', hw, hH⟩ := set_map h hg hL (c2 := c + 1) (es' := es'.push { key := k', val := v', born := c }) (by simpa using hmr.push he)
            exact ⟨ρ, w', by simp [Instr.mapUpdate, run_underlying ht, run_getMap h1, hck, hfk, foundV, hw], List.prefix_refl _, hH⟩
          | some p =>
            obtain ⟨j, e⟩ := p
            obtain ⟨e', he', hrel, hek, hek', hfv, hej⟩ := found hmr hkey hf
            simp only at hr
            subst hr
            have he : ERelm P ρ { e with key := k', val := v } { e' with key := k', val := v' } := ⟨hk, hv, hrel.2.2⟩
            obtain ⟨w', hw, hH⟩ := set_map h hg hL (c2 := c) (es' := es'.modify j fun e => { e with key := k', val := v' }) (by
              rw [modify_set es' j e' _ he']; exact hmr.set he j)
            exact ⟨ρ, w', by simp [Instr.mapUpdate, run_underlying ht, run_getMap h1, hck, hfk, hfv, he', hek', stays hkey, hw], List.prefix_refl _, hH⟩
      · cases hr
    · cases hr
  · cases hr

theorem tup2 {a a' b b' : Value} (ha : VRel P ρ a a') (hb : VRel P ρ b b') : VRel P ρ (.tuple #[a, b]) (.tuple #[a', b']) :=
  .tuple rfl (fun j x y hx hy => by
    rcases j with _ | _ | j
    · simp at hx hy; subst hx; subst hy; exact ha
    · simp at hx hy; subst hx; subst hy; exact hb
    · simp at hx)

theorem men_ok {t kt et : TypeId} {kk : EqK} {i : TypeInfo} {z : Value} (ht : P.underlying t = some (.map kt et)) (hkt : EqT P kt kk) (hi : P.info? et = some i) (hz : i.zero = some z) (hzg : VRel P [] z z)
    {m m' k k' v : Value} {H' : Heap} (h : HRel P B w0 ρ H w) (hm : VRel P ρ m m') (hk : VRel P ρ k k') (hr : kMen H kk z m k = some (v, H')) : Gives P B w0 ρ (Instr.mapEntry t m' k') w v H' := by
  unfold kMen at hr
  split at hr
  · rename_i r
    obtain ⟨L, hL, rfl⟩ := hm.map_inv
    split at hr
    · rename_i es c hg
      split at hr
      · rename_i hkey
        have hke := kKey_eq hkey hk
        subst hke
        obtain ⟨es', h1, hmr⟩ := map_inv h hg hL
        cases hf : kFind kk k' es 0 with
        | none => simp [hf] at hr
        | some q =>
          have hfk := findKey_ok hkt hkey hmr hf
          have hck := chk_ok hkt hkey false 9998
          simp only [hf, Option.map_some, Option.some.injEq] at hr
          have hzz : VRel P ρ z z := hzg.mono List.nil_prefix
          cases q with
          | none =>
            simp only [Prod.mk.injEq] at hr
            obtain ⟨rfl, rfl⟩ := hr
            have he : ERelm P ρ { key := k', val := z, born := c } { key := k', val := z, born := c } := ⟨hk, hzz, rfl⟩
            obtain ⟨w', hw, hH⟩ := set_map h hg hL (c2 := c + 1) (es' := es'.push { key := k', val := z, born := c }) (by simpa using hmr.push he)
            exact ⟨ρ, _, w', by simp [Instr.mapEntry, run_underlying ht, run_getMap h1, hck, hfk, foundV, zeroValue, typeInfo, hi, hz, hw, goInt], List.prefix_refl _, tup2 hzz (.int _ _), hH⟩
          | some p =>
            obtain ⟨j, e⟩ := p
            obtain ⟨e', he', hrel, hek, hek', hfv, hej⟩ := found hmr hkey hf
            simp only [Prod.mk.injEq] at hr
            obtain ⟨rfl, rfl⟩ := hr
            have he : ERelm P ρ { e with key := k' } { e' with key := k' } := ⟨hk, hrel.2.1, hrel.2.2⟩
            obtain ⟨w', hw, hH⟩ := set_map h hg hL (c2 := c) (es' := es'.modify j fun e => { e with key := k' }) (by
              rw [modify_set es' j e' _ he']; exact hmr.set he j)
            refine ⟨ρ, .tuple #[e'.val, .int .i64 e'.born], w', by simp [Instr.mapEntry, run_underlying ht, run_getMap h1, hck, hfk, hfv, he', hek', stays hkey, hw, goInt], List.prefix_refl _, ?_, hH⟩
            rw [hrel.2.2]
            exact tup2 hrel.2.1 (.int _ _)
      · cases hr
    · cases hr
  · cases hr

theorem born_eq {es : List MapEntry} {es' : Array MapEntry} (hm : MR P ρ es es'.toList) (b : Int) : es'.findIdx? (fun e => (e.born : Int) == b) = findBorn es b := by
  have h : ∀ (l l' : List MapEntry), MR P ρ l l' → l'.findIdx? (fun e => (e.born : Int) == b) = l.findIdx? fun e => (e.born : Int) == b := by
    intro l
    induction l with
    | nil => intro l' h; have : l' = [] := List.eq_nil_of_length_eq_zero (by have := h.1; simpa using this); subst this; rfl
    | cons e l ih =>
      intro l' h
      cases l' with
      | nil => have := h.1; simp at this
      | cons e' l' =>
        obtain ⟨he, ht⟩ := h.tail
        simp only [List.findIdx?_cons, he.2.2, ih l' ht]
  have e1 : es'.findIdx? (fun e => (e.born : Int) == b) = es'.toList.findIdx? (fun e => (e.born : Int) == b) := by
    obtain ⟨l⟩ := es'
    exact List.findIdx?_toArray _ _
  rw [e1, h es es'.toList hm]; rfl

theorem mes_ok {t : TypeId} {m m' s s' v v' : Value} {H' : Heap} (h : HRel P B w0 ρ H w) (hm : VRel P ρ m m') (hs : VRel P ρ s s') (hv : VRel P ρ v v') (hr : kMes H m s v = some H') :
    GivesU P B w0 ρ (Instr.entryStore t m' s' v') w H' := by
  unfold kMes at hr
  split at hr
  · rename_i r k b
    obtain ⟨L, hL, rfl⟩ := hm.map_inv
    cases hs
    split at hr
    · rename_i es c hg
      obtain ⟨es', h1, hmr⟩ := map_inv h hg hL
      have hb := born_eq hmr b
      split at hr
      · rename_i i hfi
        rw [hfi] at hb
        split at hr
        · rename_i e he
          cases hr
          have hlt : i < es'.size := by have := (List.getElem?_eq_some_iff.1 he).1; have := hmr.1; simp at this; omega
          have hrel := hmr.2 i e es'[i] he (by simp [hlt])
          have he2 : ERelm P ρ { e with val := v } { es'[i] with val := v' } := ⟨hrel.1, hv, hrel.2.2⟩
          obtain ⟨w', hw, hH⟩ := set_map h hg hL (c2 := c) (es' := es'.modify i fun e => { e with val := v' }) (by
              rw [modify_set es' i es'[i] _ (by simp [hlt])]; exact hmr.set he2 i)
          exact ⟨ρ, w', by simp [Instr.entryStore, run_getMap h1, asInt, asIntOf, hb, hw], List.prefix_refl _, hH⟩
        · cases hr
      · cases hr
    · cases hr
  · cases hr

theorem mkm_ok (t : TypeId) (h : HRel P B w0 ρ H w) : Gives P B w0 ρ (Instr.makeMap t none) w (.map (some H.next)) (H.push (.map [] 0)) := by
  have hH : HRel P B w0 (ρ ++ [⟨w.heap.size, 0, 0, 0⟩]) (H.push (.map [] 0)) (w.alloc (.map #[] 0)) :=
    h.push rfl ⟨#[], heap_alloc_new w _, rfl, fun i x y hx => by simp at hx⟩
  exact ⟨_, .map (some w.heap.size), _, by simp [Instr.makeMap, newObj, Sem.run], List.prefix_append _ _, .map (new_last h _), hH⟩

theorem del_ok {t kt et ty : TypeId} {kk : EqK} (ht : P.underlying t = some (.map kt et)) (hkt : EqT P kt kk) {ats : Array TypeId} (hm0 : ats[0]? = some t) {m m' k k' : Value} {H' : Heap} (h : HRel P B w0 ρ H w) (hm : VRel P ρ m m') (hk : VRel P ρ k k')
    (hr : kDel H kk m k = some H') : Gives P B w0 ρ (Builtin.delete_ ats ty #[m', k']) w (.tuple #[]) H' := by
  have htup : ∀ ρ : Rho, VRel P ρ (.tuple #[]) (.tuple #[]) := fun ρ => .tuple rfl (fun j x y hx => by simp at hx)
  unfold kDel at hr
  split at hr
  · cases hm
    split at hr
    · rename_i hkey
      cases hr
      have hke := kKey_eq hkey hk
      subst hke
      exact Gives.same h (by simp [Builtin.delete_, hm0, run_underlying ht, chk_ok hkt hkey true 9998]) (htup ρ)
    · cases hr
  · rename_i r
    obtain ⟨L, hL, rfl⟩ := hm.map_inv
    split at hr
    · rename_i es c hg
      split at hr
      · rename_i hkey
        have hke := kKey_eq hkey hk
        subst hke
        obtain ⟨es', h1, hmr⟩ := map_inv h hg hL
        cases hf : kFind kk k' es 0 with
        | none => simp [hf] at hr
        | some q =>
          have hfk := findKey_ok hkt hkey hmr hf
          have hck := chk_ok hkt hkey es'.isEmpty 9998
          simp only [hf, Option.map_some, Option.some.injEq] at hr
          cases q with
          | none =>
            simp only at hr
            subst hr
            obtain ⟨w', hw, hH⟩ := set_map h hg hL (c2 := c) (es' := es') hmr
            rw [← hg, Heap.put_self] at hH
            exact ⟨ρ, _, w', by simp [Builtin.delete_, hm0, run_underlying ht, run_getMap h1, hck, hfk, foundV, hw], List.prefix_refl _, htup ρ, hH⟩
          | some p =>
            obtain ⟨j, e⟩ := p
            obtain ⟨e', he', hrel, hek, hek', hfv, hej⟩ := found hmr hkey hf
            simp only at hr
            subst hr
            have hmr2 : MR P ρ (es.eraseIdx j) (es'.eraseIdxIfInBounds j).toList := by
              have e1 : (es'.eraseIdxIfInBounds j).toList = es'.toList.eraseIdx j := by simp
              rw [e1]
              refine ⟨by simp [List.length_eraseIdx, hmr.1], fun i x y hx hy => ?_⟩
              rw [List.getElem?_eraseIdx] at hx hy
              split at hx
              · rename_i hlt; rw [if_pos hlt] at hy; exact hmr.2 i x y hx hy
              · rename_i hlt; rw [if_neg hlt] at hy; exact hmr.2 _ x y hx hy
            obtain ⟨w', hw, hH⟩ := set_map h hg hL (c2 := c) hmr2
            exact ⟨ρ, _, w', by simp [Builtin.delete_, hm0, run_underlying ht, run_getMap h1, hck, hfk, hfv, hw], List.prefix_refl _, htup ρ, hH⟩
      · cases hr
    · cases hr
  · cases hr

/- INTERFACES -/
def isIfaceD : TypeDesc → Bool
  | .interface _ => true
  | _ => false

theorem tas_ok {xt t : TypeId} {d : TypeDesc} {i : TypeInfo} {z : Value} (hd : P.underlying t = some d) (hni : isIfaceD d = false) (hi : P.info? t = some i) (hz : i.zero = some z) (hzg : VRel P [] z z)
    {x x' v : Value} {ok : Bool} (h : HRel P B w0 ρ H w) (hx : VRel P ρ x x')
    (hr : kTas H t z ok x = some (v, H)) : Gives P B w0 ρ (Instr.typeAssert x' xt t ok) w v H := by
  have hzz : VRel P ρ z z := hzg.mono List.nil_prefix
  have hone : ∀ (t' : TypeId) (u : Value), (Instr.typeAssert (.iface t' u) xt t ok).run P w = if t' = t then .ok (if ok then .tuple #[u, .bool true] else u) w else (if ok then Result.ok (.tuple #[z, .bool false]) w else (runtimePanic (.typeAssertion (some xt) (some t') t "")).run P w) := by
    intro t' u
    cases d <;> first
      | (simp [isIfaceD] at hni; done)
      | (simp only [Instr.typeAssert, Sem.run_bind, run_underlying hd, Result.andThen_ok, Sem.run_ite, Sem.run_pure, zeroValue, typeInfo, run_program, hi, hz])
  have hnil : (Instr.typeAssert .nilIface xt t ok).run P w = (if ok then Result.ok (.tuple #[z, .bool false]) w else (runtimePanic (.typeAssertion (some xt) none t "")).run P w) := by
    cases d <;> first
      | (simp [isIfaceD] at hni; done)
      | (simp only [Instr.typeAssert, Sem.run_bind, run_underlying hd, Result.andThen_ok, Sem.run_ite, Sem.run_pure, zeroValue, typeInfo, run_program, hi, hz])
  unfold kTas at hr
  cases hx <;> simp only at hr <;> try (cases hr; done)
  · split at hr
    · rename_i hok
      subst hok
      simp only [Option.some.injEq, Prod.mk.injEq] at hr
      obtain ⟨rfl, _⟩ := hr
      exact Gives.same h (v' := .tuple #[z, .bool false]) (by rw [hnil]; simp) (tup2 hzz (.bool _))
    · cases hr
  · rename_i t' u u' hu
    split at hr
    · rename_i htt
      simp only [Option.some.injEq, Prod.mk.injEq] at hr
      obtain ⟨rfl, _⟩ := hr
      refine Gives.same h (v' := if ok then .tuple #[u', .bool true] else u') (by rw [hone, if_pos htt]) ?_
      cases ok
      · exact hu
      · exact tup2 hu (.bool _)
    · rename_i htt
      split at hr
      · rename_i hok
        subst hok
        simp only [Option.some.injEq, Prod.mk.injEq] at hr
        obtain ⟨rfl, _⟩ := hr
        exact Gives.same h (v' := .tuple #[z, .bool false]) (by rw [hone, if_neg htt]; simp) (tup2 hzz (.bool _))
      · cases hr

end
end Go.Proofs.YtjgpbhodbgjggaaGreat.K
