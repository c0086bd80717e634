/- The abstract interpreter K: a small language of operations whose types are resolved, an abstract heap of blocks, an evaluator, and the words Wc and Wf by which its runs are told step by step. -/
import Derived.Below
import Derived.Orders
namespace Go.Proofs.Ytlboioplemlneaa.K
open Go

/-- a block of the abstract heap -/
inductive Blk where
  | dead
  | cells (c : List Value) (t : TypeId) (rw : Bool)
  | map (es : List MapEntry) (clock : Nat)

/-- a text by its bytes -/
def bs (l : List Nat) : ByteArray := ⟨(l.map UInt8.ofNat).toArray⟩

abbrev Heap := List Blk
def Heap.get : Heap → Nat → Blk
  | [], _ => .dead
  | x :: _, 0 => x
  | _ :: H, n + 1 => Heap.get H n
def Heap.put : Heap → Nat → Blk → Heap
  | [], _, _ => []
  | _ :: H, 0, b => b :: H
  | x :: H, n + 1, b => x :: Heap.put H n b
def Heap.next (H : Heap) : Nat := H.length
def Heap.push (H : Heap) (b : Blk) : Heap := H ++ [b]

abbrev Env := List Value
def Env.get : Env → Nat → Value
  | [], _ => undef
  | x :: _, 0 => x
  | _ :: e, n + 1 => Env.get e n
def Env.set : Env → Nat → Value → Env
  | [], 0, v => [v]
  | [], n + 1, v => undef :: Env.set [] n v
  | _ :: e, 0, v => v :: e
  | x :: e, n + 1, v => x :: Env.set e n v

inductive Opd where
  | t (n : Nat)
  | c (v : Value)

def Env.ev (e : Env) : Opd → Value
  | .t n => e.get n
  | .c v => v

inductive EqS where
  | int | str | bool
  deriving DecidableEq
inductive EqK where
  | s (k : EqS)
  | ptr | slice | map | func | ifc
  | agg (ks : List EqS)
  deriving DecidableEq

inductive KOp where
  | mv (x : Opd)
  | pick (c a b : Opd)
  | alloc (t : TypeId) (z : List Value)
  | box (t : TypeId) (x : Opd)
  | build (z : List Value) (ps : List (Nat × Nat × Opd))
  | bsl (t : TypeId) (len : Nat) (z : List Value) (ps : List (Nat × Nat × Opd))
  | ld (a : Opd)
  | ldn (n : Nat) (a : Opd)
  | st (a v : Opd)
  | stn (n : Nat) (a v : Opd)
  | nck (x : Opd)
  | bin (o : BinOp) (x y : Opd)
  | eqv (k : EqK) (neg : Bool) (x y : Opd)
  | un (o : UnOp) (x : Opd)
  | cvt (k : IntKind) (x : Opd)
  | s2b (t : TypeId) (x : Opd)
  | b2s (t : TypeId) (x : Opd)
  | mki (t : TypeId) (x : Opd)
  | mkf (f : Fn) (first cap : List Opd)
  | mkm
  | mks (t : TypeId) (z : List Value) (bytes : Nat) (l c : Opd)
  | slS (x : Opd) (lo hi : Option Opd)
  | slc (t : TypeId) (esz : Nat) (x : Opd) (lo hi : Option Opd)
  | fad (off : Nat) (x : Opd)
  | fld (off : Nat) (x : Opd)
  | fldn (off n : Nat) (x : Opd)
  | iad (esz : Nat) (x i : Opd)
  | iada (len esz : Nat) (x i : Opd)
  | idS (x i : Opd)
  | ida (len : Nat) (x i : Opd)
  | idan (len esz : Nat) (x i : Opd)
  | xt (x : Opd) (i : Nat)
  | lenS (x : Opd)
  | lenL (x : Opd)
  | lenM (x : Opd)
  | mx (x : Opd) (xs : List Opd)
  | mn (x : Opd) (xs : List Opd)
  | app (t : TypeId) (esz bytes : Nat) (x y : Opd)
  | appS (t : TypeId) (x y : Opd)
  | cpy (t : TypeId) (esz : Nat) (x y : Opd)
  | del (kk : EqK) (m k : Opd)
  | lkp (kk : EqK) (z : Value) (ok : Bool) (m k : Opd)
  | mup (kk : EqK) (m k v : Opd)
  | men (kk : EqK) (z : Value) (m k : Opd)
  | mes (m s v : Opd)
  | tas (t : TypeId) (z : Value) (ok : Bool) (x : Opd)
  | call (f : FuncId) (args : List Opd)
  | callp (f : FuncId) (args : List Opd)
  | callv (f : Opd) (args : List Opd)
  | inv (r : Opd) (name : String) (args : List Opd)
  | nev

/-- a step of a region: an operation (its slot, its guard), or a look whether it would still give what it gave -/
inductive KStep where
  | op (dst : Option Nat) (g : Option (Nat × Bool)) (o : KOp)
  | chk (dst : Nat) (g : Option (Nat × Bool)) (o : KOp)

inductive KCode where
  | skip
  | reg (l : List KStep)
  | seq (a b : KCode)
  | cond (c : Opd) (a b : KCode)
  | block (id : Nat) (c : KCode)
  | loop (c : KCode)
  | exit (id : Nat)
  | ret
  | nev

inductive KRes where
  | t (n : Nat)
  | c1 (a : Nat)
  | cn (a n : Nat)

structure KFunc where
  nt : Nat
  body : KCode
  res : List KRes

/- THE OPERATIONS -/
def capx : Nat := 2 ^ 70

def cellsL : Value → List Value
  | .agg cs => cs.toList
  | v => [v]
def isTup : Value → Bool
  | .tuple _ => true
  | _ => false

def oneC : Value → Bool
  | .agg _ | .tuple _ => false
  | _ => true

def rd (c : List Value) (off n : Nat) : Option (List Value) := if off + n ≤ c.length then some ((c.drop off).take n) else none
def wr (c : List Value) (off : Nat) (vs : List Value) : List Value := c.take off ++ vs ++ c.drop (off + vs.length)
def zeros (z : List Value) (n : Nat) : List Value := (List.replicate n z).flatten

def kLd (H : Heap) : Value → Option Value
  | .pointer (some a) => match H.get a.block with
    | .cells c _ _ => c[a.off]?
    | _ => none
  | _ => none
def kLdn (H : Heap) (n : Nat) : Value → Option Value
  | .pointer (some a) => match H.get a.block with
    | .cells c _ _ => (rd c a.off n).map fun l => .agg l.toArray
    | _ => none
  | _ => none
def kSt (H : Heap) : Value → Value → Option Heap
  | .pointer (some a), v => match H.get a.block with
    | .cells c t true => if a.off < c.length && oneC v then some (H.put a.block (.cells (c.set a.off v) t true)) else none
    | _ => none
  | _, _ => none
def kStn (H : Heap) (n : Nat) : Value → Value → Option Heap
  | .pointer (some a), .agg vs => match H.get a.block with
    | .cells c t true => if a.off + n ≤ c.length && vs.size == n then some (H.put a.block (.cells (wr c a.off vs.toList) t true)) else none
    | _ => none
  | _, _ => none

def kFill : List Value → List (Nat × Nat × Value) → Option (List Value)
  | z, [] => some z
  | z, (off, n, v) :: ps => if !isTup v && (cellsL v).length == n && off + n ≤ z.length then kFill (wr z off (cellsL v)) ps else none

def evPs (e : Env) (ps : List (Nat × Nat × Opd)) : List (Nat × Nat × Value) := ps.map fun p => (p.1, p.2.1, e.ev p.2.2)

def kInt (o : BinOp) (k : IntKind) (a b : Int) : Option Value :=
  match o with
  | .add => some (.int k (k.wrap (a + b)))
  | .sub => some (.int k (k.wrap (a - b)))
  | .mul => some (.int k (k.wrap (a * b)))
  | .quo => if b = 0 then none else some (.int k (k.wrap (a.tdiv b)))
  | .rem => if b = 0 then none else some (.int k (a.tmod b))
  | .and => some (.int k (k.wrap (BitVec.ofInt k.bits a &&& BitVec.ofInt k.bits b).toNat))
  | .or => some (.int k (k.wrap (BitVec.ofInt k.bits a ||| BitVec.ofInt k.bits b).toNat))
  | .xor => some (.int k (k.wrap (BitVec.ofInt k.bits a ^^^ BitVec.ofInt k.bits b).toNat))
  | .andNot => some (.int k (k.wrap (BitVec.ofInt k.bits a &&& ~~~(BitVec.ofInt k.bits b)).toNat))
  | .eql => some (.bool (a == b))
  | .neq => some (.bool (a != b))
  | .lss => some (.bool (a < b))
  | .leq => some (.bool (a ≤ b))
  | .gtr => some (.bool (a > b))
  | .geq => some (.bool (a ≥ b))
  | .shl | .shr => none

def kStr (o : BinOp) (a b : ByteArray) : Option Value :=
  match o with
  | .add => if ((a.size + b.size : Nat) : Int) > IntKind.i64.max then none else some (.string (a ++ b))
  | .eql => some (.bool (a.toList == b.toList))
  | .neq => some (.bool !(a.toList == b.toList))
  | .lss => some (.bool (Op.bytesLess a.toList b.toList))
  | .leq => some (.bool (Op.bytesLess a.toList b.toList || a.toList == b.toList))
  | .gtr => some (.bool !(Op.bytesLess a.toList b.toList || a.toList == b.toList))
  | .geq => some (.bool !(Op.bytesLess a.toList b.toList))
  | _ => none

def kBin (o : BinOp) : Value → Value → Option Value
  | .int k a, .int k' b =>
    match o with
    | .shl => if b < 0 then none else some (.int k (k.wrap (a * 2 ^ (min b.toNat k.bits))))
    | .shr => if b < 0 then none else some (.int k (a.fdiv (2 ^ (min b.toNat k.bits))))
    | o => if k = k' then kInt o k a b else none
  | .string a, .string b => kStr o a b
  | _, _ => none

/-- equality of scalars -/
def kEq1 : EqS → Value → Value → Option Bool
  | .bool, .bool a, .bool b => some (a == b)
  | .int, .int k a, .int k' b => if k = k' then some (a == b) else none
  | .str, .string a, .string b => some (a.toList == b.toList)
  | _, _, _ => none
def kEqL : List EqS → List Value → List Value → Option Bool
  | [], [], [] => some true
  | k :: ks, x :: xs, y :: ys => (kEq1 k x y).bind fun b => if b then kEqL ks xs ys else if xs.length = ks.length ∧ ys.length = ks.length then some false else none
  | _, _, _ => none
def kEq : EqK → Value → Value → Option Bool
  | .s k, x, y => kEq1 k x y
  | .ptr, .pointer none, .pointer b => some b.isNone
  | .ptr, .pointer (some _), .pointer none => some false
  | .slice, .slice none _ _, .slice b _ _ => some b.isNone
  | .slice, .slice (some _) _ _, .slice none _ _ => some false
  | .map, .map none, .map b => some b.isNone
  | .map, .map (some _), .map none => some false
  | .func, .nilFunc, .nilFunc => some true
  | .func, .func _ _ _, .nilFunc => some false
  | .ifc, .nilIface, .nilIface => some true
  | .ifc, .iface _ _, .nilIface => some false
  | .agg ks, .agg xs, .agg ys => kEqL ks xs.toList ys.toList
  | _, _, _ => none

def kUn (o : UnOp) : Value → Option Value
  | .int k n => match o with
    | .neg => some (.int k (k.wrap (0 - n)))
    | .xor => some (.int k (k.wrap (BitVec.ofInt k.bits (if k.signed then -1 else k.max) ^^^ BitVec.ofInt k.bits n).toNat))
    | _ => none
  | .bool b => match o with
    | .not => some (.bool !b)
    | _ => none
  | _ => none

def kBytes : List Value → Option (List UInt8)
  | [] => some []
  | .int .u8 n :: l => (kBytes l).map (UInt8.ofNat n.toNat :: ·)
  | _ :: _ => none

def kSlS (s : ByteArray) (l h : Int) : Option Value :=
  if 0 ≤ l ∧ l ≤ h ∧ h ≤ s.size then some (.string (s.extract l.toNat h.toNat)) else none

def evI (e : Env) (d : Int) : Option Opd → Option Int
  | none => some d
  | some x => match e.ev x with
    | .int _ n => some n
    | _ => none

def addOff (a : Addr) (n : Nat) : Addr := ⟨a.block, a.off + n, none⟩

def kSlc (H : Heap) (t : TypeId) (esz : Nat) (v : Value) (l : Int) (h : Option Int) : Option Value :=
  match v with
  | .slice none n c => if c = capx then none else
      if 0 ≤ l ∧ l ≤ h.getD n ∧ h.getD n ≤ c then some (.slice none (h.getD n - l).toNat (c - l.toNat)) else none
  | .slice (some a) n c => match H.get a.block with
    | .cells _ t' _ =>
      if t' = t then
        if c = capx then
          if 0 ≤ l ∧ l ≤ h.getD n ∧ h.getD n ≤ n then some (.slice (some (addOff a (l.toNat * esz))) (h.getD n - l).toNat capx) else none
        else
          if 0 ≤ l ∧ l ≤ h.getD n ∧ h.getD n ≤ c then
            some (.slice (some (if l.toNat = c then a else addOff a (l.toNat * esz))) (h.getD n - l).toNat (c - l.toNat)) else none
      else none
    | _ => none
  | _ => none

def kMks (H : Heap) (t : TypeId) (z : List Value) (bytes : Nat) : Value → Value → Option (Value × Heap)
  | .int _ l, .int _ c =>
    if 0 ≤ l ∧ l ≤ c ∧ c ≤ 9223372036854775807 ∧ (bytes : Int) * c ≤ 281474976710656 then some (.slice (some ⟨H.next, 0, none⟩) l.toNat c.toNat, H.push (.cells (zeros z c.toNat) t true)) else none
  | _, _ => none

def roomMax : Nat := 140737488355328

/-- the cells of the first n elements of a slice -/
def kRow (H : Heap) (t : TypeId) (esz n : Nat) : Option Addr → Option (List Value)
  | none => if n = 0 then some [] else none
  | some a => match H.get a.block with
    | .cells c t' _ => if t' = t then rd c a.off (n * esz) else none
    | _ => none

/-- append of cells that are known: m elements -/
def kApp (H : Heap) (t : TypeId) (esz bytes : Nat) (v : Value) (m : Nat) (news : List Value) : Option (Value × Heap) :=
  match v with
  | .slice none n c =>
    if n = 0 ∧ c = 0 ∧ m * bytes ≤ roomMax ∧ m ≤ roomMax then
      if m = 0 then some (v, H) else some (.slice (some ⟨H.next, 0, none⟩) m capx, H.push (.cells news t true))
    else none
  | .slice (some a) n c => match H.get a.block with
    | .cells cs t' rw =>
      if t' = t ∧ (n + m) * bytes ≤ roomMax ∧ n + m ≤ roomMax then
        if c = capx then
          if m = 0 then some (v, H)
          else if rw then (rd cs a.off (n * esz)).map fun olds => (.slice (some ⟨H.next, 0, none⟩) (n + m) capx, (H.put a.block .dead).push (.cells (olds ++ news) t true))
          else none
        else if n + m ≤ c then
          if m = 0 then some (v, H)
          else if rw && decide (a.off + (n + m) * esz ≤ cs.length) then some (.slice (some a) (n + m) c, H.put a.block (.cells (wr cs (a.off + n * esz) news) t true)) else none
        else (rd cs a.off (n * esz)).map fun olds => (.slice (some ⟨H.next, 0, none⟩) (n + m) capx, H.push (.cells (olds ++ news) t true))
      else none
    | _ => none
  | _ => none

def byteVals (s : ByteArray) : List Value := s.data.toList.map fun b => .int .u8 b.toNat

def kKey1 : EqS → Value → Bool
  | .int, .int _ _ | .str, .string _ | .bool, .bool _ => true
  | _, _ => false
def kKeyL : List EqS → List Value → Bool
  | [], [] => true
  | k :: ks, x :: xs => kKey1 k x && kKeyL ks xs
  | _, _ => false
/-- a key that may be: a scalar, or some scalars -/
def kKey : EqK → Value → Bool
  | .s k, x => kKey1 k x
  | .agg ks, .agg xs => kKeyL ks xs.toList
  | _, _ => false
def kFind (kk : EqK) (k : Value) : List MapEntry → Nat → Option (Option (Nat × MapEntry))
  | [], _ => some none
  | e :: es, i => (kEq kk k e.key).bind fun b => if b then some (some (i, e)) else kFind kk k es (i + 1)

def kMap (H : Heap) : Value → Option (List MapEntry × Nat)
  | .map (some r) => match H.get r with
    | .map es c => some (es, c)
    | _ => none
  | .map none => some ([], 0)
  | _ => none

def kMup (H : Heap) (kk : EqK) (m k v : Value) : Option Heap :=
  match m with
  | .map (some r) => match H.get r with
    | .map es c => if kKey kk k then (kFind kk k es 0).map fun
        | some (i, e) => H.put r (.map (es.set i { e with key := k, val := v }) c)
        | none => H.put r (.map (es ++ [{ key := k, val := v, born := c }]) (c + 1)) else none
    | _ => none
  | _ => none
def kMen (H : Heap) (kk : EqK) (z m k : Value) : Option (Value × Heap) :=
  match m with
  | .map (some r) => match H.get r with
    | .map es c => if kKey kk k then (kFind kk k es 0).map fun
        | some (i, e) => (.tuple #[e.val, .int .i64 e.born], H.put r (.map (es.set i { e with key := k }) c))
        | none => (.tuple #[z, .int .i64 c], H.put r (.map (es ++ [{ key := k, val := z, born := c }]) (c + 1))) else none
    | _ => none
  | _ => none
def findBorn (es : List MapEntry) (b : Int) : Option Nat := es.findIdx? fun e => (e.born : Int) == b
def kMes (H : Heap) (m s v : Value) : Option Heap :=
  match m, s with
  | .map (some r), .int _ b => match H.get r with
    | .map es c => match findBorn es b with
      | some i => match es[i]? with
        | some e => some (H.put r (.map (es.set i { e with val := v }) c))
        | none => none
      | none => none
    | _ => none
  | _, _ => none
def kDel (H : Heap) (kk : EqK) (m k : Value) : Option Heap :=
  match m with
  | .map none => if kKey kk k then some H else none
  | .map (some r) => match H.get r with
    | .map es c => if kKey kk k then (kFind kk k es 0).map fun
        | some (i, _) => H.put r (.map (es.eraseIdx i) c)
        | none => H else none
    | _ => none
  | _ => none

def setO (e : Env) : Option Nat → Value → Env
  | none, _ => e
  | some d, v => e.set d v

def noV : Value := undef

def kMx : Value → List Value → Option Value
  | .int k a, [] => some (.int k a)
  | .int k a, .int _ b :: l => kMx (.int k (if b > a then b else a)) l
  | _, _ => none
def kMn : Value → List Value → Option Value
  | .int k a, [] => some (.int k a)
  | .int k a, .int _ b :: l => kMn (.int k (if b < a then b else a)) l
  | _, _ => none

def kTas (H : Heap) (t : TypeId) (z : Value) (ok : Bool) : Value → Option (Value × Heap)
  | .iface t' v => if t' = t then some (if ok then .tuple #[v, .bool true] else v, H) else if ok then some (.tuple #[z, .bool false], H) else none
  | .nilIface => if ok then some (.tuple #[z, .bool false], H) else none
  | _ => none

def kop (o : KOp) (e : Env) (H : Heap) : Option (Value × Heap) :=
  match o with
  | .mv x => some (e.ev x, H)
  | .pick c a b => match e.ev c with
    | .bool t => some (if t then e.ev a else e.ev b, H)
    | _ => none
  | .alloc t z => some (.pointer (some ⟨H.next, 0, none⟩), H.push (.cells z t true))
  | .box t x => if isTup (e.ev x) then none else some (.pointer (some ⟨H.next, 0, none⟩), H.push (.cells (cellsL (e.ev x)) t true))
  | .build z ps => (kFill z (evPs e ps)).map fun c => (.agg c.toArray, H)
  | .bsl t len z ps => (kFill z (evPs e ps)).map fun c => (.slice (some ⟨H.next, 0, none⟩) len len, H.push (.cells c t true))
  | .ld a => (kLd H (e.ev a)).map (·, H)
  | .ldn n a => (kLdn H n (e.ev a)).map (·, H)
  | .st a v => (kSt H (e.ev a) (e.ev v)).map (noV, ·)
  | .stn n a v => (kStn H n (e.ev a) (e.ev v)).map (noV, ·)
  | .nck x => match e.ev x with
    | .pointer (some a) => some (.pointer (some a), H)
    | .func (.func f) a b => some (.func (.func f) a b, H)
    | _ => none
  | .bin o x y => (kBin o (e.ev x) (e.ev y)).map (·, H)
  | .eqv k neg x y => (kEq k (e.ev x) (e.ev y)).map fun b => (.bool (b != neg), H)
  | .un o x => (kUn o (e.ev x)).map (·, H)
  | .cvt k x => match e.ev x with
    | .int _ n => some (.int k (k.wrap n), H)
    | _ => none
  | .s2b t x => match e.ev x with
    | .string s => if s.size ≤ roomMax then some (.slice (some ⟨H.next, 0, none⟩) s.size capx, H.push (.cells (byteVals s) t true)) else none
    | _ => none
  | .b2s t x => match e.ev x with
    | .slice a n _ => (kRow H t 1 n a).bind fun l => (kBytes l).map fun bs => (.string ⟨bs.toArray⟩, H)
    | _ => none
  | .mki t x => if isTup (e.ev x) then none else some (.iface t (e.ev x), H)
  | .mkf f first cap => some (.func f (first.map e.ev).toArray (cap.map e.ev).toArray, H)
  | .mkm => some (.map (some H.next), H.push (.map [] 0))
  | .mks t z bytes l c => kMks H t z bytes (e.ev l) (e.ev c)
  | .slS x lo hi => match e.ev x with
    | .string s => (evI e 0 lo).bind fun l => (evI e s.size hi).bind fun h => (kSlS s l h).map (·, H)
    | _ => none
  | .slc t esz x lo hi => (evI e 0 lo).bind fun l => match hi with
    | none => (kSlc H t esz (e.ev x) l none).map (·, H)
    | some hi => (evI e 0 (some hi)).bind fun h => (kSlc H t esz (e.ev x) l (some h)).map (·, H)
  | .fad off x => match e.ev x with
    | .pointer (some a) => some (.pointer (some (addOff a off)), H)
    | _ => none
  | .fld off x => match e.ev x with
    | .agg cs => (cs.toList[off]?).map (·, H)
    | _ => none
  | .fldn off n x => match e.ev x with
    | .agg cs => (rd cs.toList off n).map fun l => (.agg l.toArray, H)
    | _ => none
  | .iad esz x i => match e.ev x, e.ev i with
    | .slice (some a) n _, .int _ i => if 0 ≤ i ∧ i < n then some (.pointer (some (addOff a (i.toNat * esz))), H) else none
    | _, _ => none
  | .iada len esz x i => match e.ev x, e.ev i with
    | .pointer (some a), .int _ i => if 0 ≤ i ∧ i < len then some (.pointer (some (addOff a (i.toNat * esz))), H) else none
    | _, _ => none
  | .idS x i => match e.ev x, e.ev i with
    | .string s, .int _ i => if 0 ≤ i then (s.data.toList[i.toNat]?).map fun b => (.int .u8 b.toNat, H) else none
    | _, _ => none
  | .ida len x i => match e.ev x, e.ev i with
    | .agg cs, .int _ i => if 0 ≤ i ∧ i < len then (cs.toList[i.toNat]?).map (·, H) else none
    | _, _ => none
  | .idan len esz x i => match e.ev x, e.ev i with
    | .agg cs, .int _ i => if 0 ≤ i ∧ i < len then (rd cs.toList (i.toNat * esz) esz).map fun l => (.agg l.toArray, H) else none
    | _, _ => none
  | .xt x i => match e.ev x with
    | .tuple vs => (vs.toList[i]?).map (·, H)
    | _ => none
  | .lenS x => match e.ev x with
    | .string s => some (.int .i64 s.size, H)
    | _ => none
  | .lenL x => match e.ev x with
    | .slice _ n _ => some (.int .i64 n, H)
    | _ => none
  | .lenM x => (kMap H (e.ev x)).map fun p => (.int .i64 p.1.length, H)
  | .mx x xs => (kMx (e.ev x) (xs.map e.ev)).map (·, H)
  | .mn x xs => (kMn (e.ev x) (xs.map e.ev)).map (·, H)
  | .app t esz bytes x y => match e.ev y with
    | .slice a m _ => (kRow H t esz m a).bind fun news => kApp H t esz bytes (e.ev x) m news
    | _ => none
  | .appS t x y => match e.ev y with
    | .string s => kApp H t 1 1 (e.ev x) s.size (byteVals s)
    | _ => none
  | .cpy t esz x y => match e.ev x, e.ev y with
    | .slice a n _, .slice b m _ => (kRow H t esz (min m n) b).bind fun l =>
        match a with
        | none => some (.int .i64 (min m n : Nat), H)
        | some a => match H.get a.block with
          | .cells c t' true => if t' = t && decide (a.off + l.length ≤ c.length) then some (.int .i64 (min m n : Nat), H.put a.block (.cells (wr c a.off l) t' true)) else none
          | _ => none
    | _, _ => none
  | .del kk m k => (kDel H kk (e.ev m) (e.ev k)).map (.tuple #[], ·)
  | .lkp kk z ok m k => (kMap H (e.ev m)).bind fun p => if kKey kk (e.ev k) then (kFind kk (e.ev k) p.1 0).map fun
      | some (_, en) => (if ok then .tuple #[en.val, .bool true] else en.val, H)
      | none => (if ok then .tuple #[z, .bool false] else z, H) else none
  | .mup kk m k v => (kMup H kk (e.ev m) (e.ev k) (e.ev v)).map (noV, ·)
  | .men kk z m k => kMen H kk z (e.ev m) (e.ev k)
  | .mes m s v => (kMes H (e.ev m) (e.ev s) (e.ev v)).map (noV, ·)
  | .tas t z ok x => kTas H t z ok (e.ev x)
  | .call _ _ | .callp _ _ | .callv _ _ | .inv _ _ _ | .nev => none

/-- how the receiver of an interface's method is handed over: as it is, or loaded -/
inductive Recv where
  | as
  | ld
  | ldn (n : Nat)

abbrev CallO := FuncId → List Value → Heap → Option (Value × Heap)

structure Sys where
  F : FuncId → Option KFunc
  M : TypeId → String → Option (FuncId × Recv)
  R : FuncId → Option (List Value → Heap → Option (Value × Heap))

def recvOf (H : Heap) (v : Value) : Recv → Option Value
  | .as => some v
  | .ld => kLd H v
  | .ldn n => kLdn H n v

/-- numbers, bools, texts: what stands in no memory -/
def gnd1 : Value → Bool
  | .bool _ | .int _ _ | .string _ => true
  | _ => false
def gndV : Value → Bool
  | .agg xs | .tuple xs => xs.toList.all gnd1
  | v => gnd1 v

def kExec (S : Sys) (call : CallO) (o : KOp) (e : Env) (H : Heap) : Option (Value × Heap) :=
  match o with
  | .call f args => call f (args.map e.ev) H
  | .callp f args => if (args.map e.ev).all gndV then (call f (args.map e.ev) []).bind fun p => if gndV p.1 then some (p.1, H) else none else none
  | .callv f args => match e.ev f with
    | .func (.func f) first cap => call f (first.toList ++ args.map e.ev ++ cap.toList) H
    | _ => none
  | .inv r name args => match e.ev r with
    | .iface t v => (S.M t name).bind fun p => (recvOf H v p.2).bind fun x => call p.1 (x :: args.map e.ev) H
    | _ => none
  | o => kop o e H

/-- is it to be done? -/
def wants (e : Env) : Option (Nat × Bool) → Bool
  | none => true
  | some (s, w) => match e.get s with
    | .bool b => b == w
    | _ => false

def veq1 : Value → Value → Bool
  | .bool a, .bool b => a == b
  | .int k a, .int k' b => decide (k = k') && decide (a = b)
  | .string a, .string b => decide (a = b)
  | .pointer a, .pointer b => decide (a = b)
  | .slice a n c, .slice a' n' c' => decide (a = a') && decide (n = n') && decide (c = c')
  | .map a, .map b => decide (a = b)
  | .nilFunc, .nilFunc => true
  | .nilIface, .nilIface => true
  | _, _ => false
def veqL : List Value → List Value → Bool
  | [], [] => true
  | x :: xs, y :: ys => veq1 x y && veqL xs ys
  | _, _ => false
def veq : Value → Value → Bool
  | .agg xs, .agg ys => veqL xs.toList ys.toList
  | x, y => veq1 x y

def kStep (S : Sys) (call : CallO) : KStep → Env → Heap → Option (Env × Heap)
  | .op dst g o, e, H => if wants e g then (kExec S call o e H).map fun p => (setO e dst p.1, p.2) else some (setO e dst undef, H)
  | .chk dst g o, e, H => if wants e g then (kop o e H).bind fun p => if veq p.1 (e.get dst) then some (e, H) else none else some (e, H)

def kSteps (S : Sys) (call : CallO) : List KStep → Env → Heap → Option (Env × Heap)
  | [], e, H => some (e, H)
  | s :: l, e, H => (kStep S call s e H).bind fun p => kSteps S call l p.1 p.2

inductive KExit where
  | normal
  | exit (id : Nat)
  | ret
  deriving DecidableEq

structure KSt where
  x : KExit
  e : Env
  H : Heap

def evLoop (f : Env → Heap → Option KSt) : Nat → Env → Heap → Option KSt
  | 0, _, _ => none
  | m + 1, e, H => (f e H).bind fun s => match s.x with
    | .normal => evLoop f m s.e s.H
    | _ => some s

def evCode (S : Sys) (call : CallO) (n : Nat) : KCode → Env → Heap → Option KSt
  | .skip, e, H => some ⟨.normal, e, H⟩
  | .reg l, e, H => (kSteps S call l e H).map fun p => ⟨.normal, p.1, p.2⟩
  | .seq a b, e, H => (evCode S call n a e H).bind fun s => match s.x with
    | .normal => evCode S call n b s.e s.H
    | _ => some s
  | .cond c a b, e, H => match e.ev c with
    | .bool true => evCode S call n a e H
    | .bool false => evCode S call n b e H
    | _ => none
  | .block id c, e, H => (evCode S call n c e H).map fun s => if s.x = .exit id then ⟨.normal, s.e, s.H⟩ else s
  | .loop c, e, H => evLoop (fun e H => evCode S call n c e H) n e H
  | .exit id, e, H => some ⟨.exit id, e, H⟩
  | .ret, e, H => some ⟨.ret, e, H⟩
  | .nev, _, _ => none

def kRes1 (e : Env) (H : Heap) : KRes → Option Value
  | .t n => some (e.get n)
  | .c1 a => kLd H (e.get a)
  | .cn a n => kLdn H n (e.get a)
def kResL (e : Env) (H : Heap) : List KRes → Option (List Value)
  | [] => some []
  | r :: rs => (kRes1 e H r).bind fun v => (kResL e H rs).map (v :: ·)
def tup : List Value → Value
  | [v] => v
  | vs => .tuple vs.toArray
def kRes (e : Env) (H : Heap) (rs : List KRes) : Option Value := (kResL e H rs).map tup

def evFn (S : Sys) : Nat → CallO
  | 0 => fun _ _ _ => none
  | n + 1 => fun f args H => match S.R f with
    | some p => p args H
    | none => (S.F f).bind fun k => (evCode S (evFn S n) n k.body args H).bind fun s =>
        if s.x = .normal ∨ s.x = .ret then (kRes s.e s.H k.res).map (·, s.H) else none

end Go.Proofs.Ytlboioplemlneaa.K
