/- How an operation of the model becomes one of K, and that K's then tells what the model's comes to. -/
import Derived.Test.YtlboioplemlneaaKMem5
set_option linter.unusedVariables false
set_option linter.unusedSimpArgs false
namespace Go.Proofs.Ytlboioplemlneaa.K
open Go Go.RowKit

def ground1 : Value → Bool
  | .bool _ | .int _ _ | .string _ | .pointer none | .slice none 0 0 | .map none | .nilFunc | .nilIface => true
  | _ => false
def groundV : Value → Bool
  | .agg xs => xs.toList.all ground1
  | v => ground1 v

def cOpd (nt : Nat) : Operand → Option Opd
  | .tmp t => if t < nt then some (.t t) else none
  | .const v => if groundV v then some (.c v) else none
  | .func f => some (.c (.func (.func f) #[] #[]))
  | .global _ => none

def cOpds (nt : Nat) : List Operand → Option (List Opd)
  | [] => some []
  | x :: xs => (cOpd nt x).bind fun y => (cOpds nt xs).map (y :: ·)

/-- the cells of a type's zero value -/
def zc (P : Program) (t : TypeId) : Option (List Value) := (P.info? t).bind fun i => i.zero.bind fun z => if z.cells.toList.all ground1 && decide (z.cells.size = i.size) then some z.cells.toList else none
def zv (P : Program) (t : TypeId) : Option Value := (P.info? t).bind fun i => i.zero.bind fun z => if groundV z then some z else none

def cParts (nt : Nat) (place : Nat → Option (Nat × Nat)) : List (Nat × Operand) → Option (List (Nat × Nat × Opd))
  | [] => some []
  | (i, x) :: ps => (place i).bind fun p => (cOpd nt x).bind fun y => (cParts nt place ps).map ((p.1, p.2, y) :: ·)

def places (P : Program) (fs : List Field) : Option (List (Nat × Nat)) := fs.mapM fun f => (P.info? f.type).map fun i => (f.offset, i.size)

def cBuild (P : Program) (nt : Nat) (t : TypeId) (ps : Array (Nat × Operand)) : Option KOp :=
  (zc P t).bind fun z => (P.underlying t).bind fun
    | .struct fs => (places P fs.toList).bind fun pl => (cParts nt (pl.toArray[·]?) ps.toList).map (KOp.build z)
    | .array _ e => (P.info? e).bind fun ie => (cParts nt (fun i => some (i * ie.size, ie.size)) ps.toList).map (KOp.build z)
    | _ => none

def cBsl (P : Program) (nt : Nat) (t : TypeId) (len : Nat) (ps : Array (Nat × Operand)) : Option KOp :=
  (P.underlying t).bind fun
    | .slice e => (P.info? e).bind fun i => if len * i.size ≤ 16777216 then
        (if len * i.size = 0 then some #[] else i.zero.map Value.cells).bind fun zv =>
          let z := ((Array.range (len * i.size)).map (zv[· % zv.size]!)).toList
          if z.all ground1 then (cParts nt (fun j => some (j * i.size, i.size)) ps.toList).map (KOp.bsl e len z) else none
      else none
    | _ => none

def cLoad (P : Program) (nt : Nat) (t : TypeId) (x : Operand) : Option KOp :=
  (P.underlying t).bind fun d => (P.info? t).bind fun i => (cOpd nt x).map fun x => if isAggD d then .ldn i.size x else .ld x
def cStore (P : Program) (nt : Nat) (t : TypeId) (x y : Operand) : Option KOp :=
  (P.underlying t).bind fun d => (P.info? t).bind fun i => (cOpd nt x).bind fun x => (cOpd nt y).bind fun y => if isAggD d then some (.stn i.size x y) else if i.size = 1 then some (.st x y) else none

def eqS (P : Program) (t : TypeId) : Option EqS :=
  (P.underlying t).bind fun
    | .int _ => some .int
    | .string => some .str
    | .bool => some .bool
    | _ => none
def flatK (P : Program) : List Field → Nat → Option (List EqS)
  | [], _ => some []
  | f :: fs, j => if f.name ≠ "_" ∧ f.offset = j then (eqS P f.type).bind fun k => (flatK P fs (j + 1)).map (k :: ·) else none
def eqK (P : Program) (t : TypeId) : Option EqK :=
  (P.underlying t).bind fun
    | .int _ => some (.s .int)
    | .string => some (.s .str)
    | .bool => some (.s .bool)
    | .pointer _ => some .ptr
    | .slice _ => some .slice
    | .map _ _ => some .map
    | .func _ _ _ => some .func
    | .interface _ => some .ifc
    | .struct fs => if P.eqGuardType P.depth t = false ∧ P.stoodInHeld t = false then (flatK P fs.toList 0).map .agg else none
    | .array n e => if P.eqGuardType P.depth t = false then (P.info? e).bind fun i => if i.size = 1 then (eqS P e).map fun k => .agg (List.replicate n k) else none else none
    | _ => none

def isC : Operand → Bool
  | .const _ => true
  | _ => false

def cEqv (P : Program) (nt : Nat) (neg : Bool) (t : TypeId) (x y : Operand) : Option KOp :=
  (eqK P t).bind fun k => (cOpd nt x).bind fun x' => (cOpd nt y).bind fun y' =>
    if k = .s .int ∨ k = .s .str then some (.bin (if neg then .neq else .eql) x' y') else if k = .ifc ∧ isC y = false then none else some (.eqv k neg x' y')

def cBin (P : Program) (nt : Nat) (o : BinOp) (t : TypeId) (x y : Operand) : Option KOp :=
  match o with
  | .eql => cEqv P nt false t x y
  | .neq => cEqv P nt true t x y
  | o => (cOpd nt x).bind fun x => (cOpd nt y).map fun y => .bin o x y

def isU8 (P : Program) (t : TypeId) : Bool :=
  match P.underlying t with
  | some (.int .u8) => true
  | _ => false
theorem isU8_ok {P : Program} {t : TypeId} (h : isU8 P t = true) : P.underlying t = some (.int .u8) := by
  unfold isU8 at h; split at h
  · assumption
  · cases h

def cConv (P : Program) (nt : Nat) (src dst : TypeId) (x : Operand) : Option KOp :=
  (P.underlying src).bind fun s => (P.underlying dst).bind fun d => (cOpd nt x).bind fun x =>
    match d with
    | .int k => some (.cvt k x)
    | .string => match s with
      | .slice e => if isU8 P e then some (.b2s e x) else none
      | _ => none
    | .slice e => if isU8 P e && decide ((P.info? e).map (·.size) = some 1) then some (.s2b e x) else none
    | _ => none

def cMks (P : Program) (nt : Nat) (t : TypeId) (l c : Operand) : Option KOp :=
  (P.underlying t).bind fun
    | .slice e => (P.info? e).bind fun i => (zc P e).bind fun z => (cOpd nt l).bind fun l => (cOpd nt c).map fun c => .mks e z i.bytes l c
    | _ => none

def cOpt (nt : Nat) : Option Operand → Option (Option Opd)
  | none => some none
  | some x => (cOpd nt x).map some

def cSlice (P : Program) (nt : Nat) (t : TypeId) (x : Operand) (lo hi mx : Option Operand) : Option KOp :=
  if mx.isSome then none else
  (P.underlying t).bind fun d => (cOpd nt x).bind fun x => (cOpt nt lo).bind fun lo => (cOpt nt hi).bind fun hi =>
    match d with
    | .string => some (.slS x lo hi)
    | .slice e => (P.info? e).map fun i => .slc e i.size x lo hi
    | _ => none

def cFad (P : Program) (nt : Nat) (t : TypeId) (x : Operand) (n : Nat) : Option KOp :=
  (P.underlying t).bind fun
    | .struct fs => (fs[n]?).bind fun f => (P.info? f.type).bind fun i => if i.size = 0 then none else (cOpd nt x).map (.fad f.offset)
    | _ => none
def cFld (P : Program) (nt : Nat) (t : TypeId) (x : Operand) (n : Nat) : Option KOp :=
  (P.underlying t).bind fun
    | .struct fs => (fs[n]?).bind fun f => (P.underlying f.type).bind fun d => (P.info? f.type).bind fun i => (cOpd nt x).map fun x => if isAggD d then .fldn f.offset i.size x else .fld f.offset x
    | _ => none
def cIad (P : Program) (nt : Nat) (t : TypeId) (x j : Operand) : Option KOp :=
  (P.underlying t).bind fun d => (cOpd nt x).bind fun x => (cOpd nt j).bind fun j =>
    match d with
    | .slice e => (P.info? e).map fun i => .iad i.size x j
    | .array len e => (P.info? e).map fun i => .iada len i.size x j
    | _ => none
def cIdx (P : Program) (nt : Nat) (t : TypeId) (x j : Operand) : Option KOp :=
  (P.underlying t).bind fun d => (cOpd nt x).bind fun x => (cOpd nt j).bind fun j =>
    match d with
    | .string => some (.idS x j)
    | .array len e => (P.underlying e).bind fun d => (P.info? e).bind fun i => if isAggD d then some (.idan len i.size x j) else if i.size = 1 then some (.ida len x j) else none
    | _ => none

def cMap (P : Program) (t : TypeId) : Option (EqK × TypeId) :=
  (P.underlying t).bind fun
    | .map k e => (eqK P k).map (·, e)
    | _ => none

def cTas (P : Program) (nt : Nat) (x : Operand) (t : TypeId) (ok : Bool) : Option KOp :=
  (P.underlying t).bind fun d => if isIfaceD d then none else (zv P t).bind fun z => (cOpd nt x).map (.tas t z ok)

def cBuiltin (P : Program) (nt : Nat) (b : Builtin) (args : List Operand) (ats : List TypeId) : Option KOp :=
  match b, args, ats with
  | .len, [x], [t] => (P.underlying t).bind fun d => (cOpd nt x).bind fun x =>
      match d with
      | .string => some (.lenS x)
      | .slice _ => some (.lenL x)
      | .map _ _ => some (.lenM x)
      | .array n _ => some (.mv (.c (.int .i64 n)))
      | _ => none
  | .append, [x, y], [t, u] => (P.underlying t).bind fun
      | .slice e => (P.info? e).bind fun i => (zc P e).bind fun _ => (cOpd nt x).bind fun x => (cOpd nt y).bind fun y => (P.underlying u).bind fun
        | .slice e2 => some (.app e i.size i.bytes x y)
        | .string => if i.size = 1 ∧ i.bytes = 1 then some (.appS e x y) else none
        | _ => none
      | _ => none
  | .max, x :: xs, _ => (cOpd nt x).bind fun x => (cOpds nt xs).map (.mx x)
  | .min, x :: xs, _ => (cOpd nt x).bind fun x => (cOpds nt xs).map (.mn x)
  | .copy, [x, y], [t, u] => (P.underlying t).bind fun
      | .slice e => (P.info? e).bind fun i => (cOpd nt x).bind fun x => (cOpd nt y).map fun y => .cpy e i.size x y
      | _ => none
  | .delete, [m, k], t :: _ => (cMap P t).bind fun p => (cOpd nt m).bind fun m => (cOpd nt k).map fun k => .del p.1 m k
  | _, _, _ => none

def okFunc (P : Program) (f : FuncId) : Bool :=
  match P.funcs[f]? with
  | some fn => fn.body.isSome && fn.name != "runtime.NumGoroutine"
  | none => false

def cCall (P : Program) (nt : Nat) (c : Call) : Option KOp :=
  match c.callee with
  | .builtin b => cBuiltin P nt b c.args.toList c.argTypes.toList
  | .value (.func f) => if okFunc P f then (cOpds nt c.args.toList).map (.call f) else none
  | .value f => (cOpd nt f).bind fun f => (cOpds nt c.args.toList).map (.callv f)
  | .invoke r name => (cOpd nt r).bind fun r => (cOpds nt c.args.toList).map (.inv r name)

def cOp0 (P : Program) (nt : Nat) : Op → Option KOp
  | .move x | .assign x => (cOpd nt x).map .mv
  | .pick c a b => (cOpd nt c).bind fun c => (cOpd nt a).bind fun a => (cOpd nt b).map fun b => .pick c a b
  | .alloc t => (zc P t).map (.alloc t)
  | .box t x => (cOpd nt x).map (.box t)
  | .build t ps => cBuild P nt t ps
  | .buildSlice t len ps => cBsl P nt t len ps
  | .load t x => cLoad P nt t x
  | .store t x y => cStore P nt t x y
  | .nilCheck x => (cOpd nt x).map .nck
  | .binOp o t x y _ => cBin P nt o t x y
  | .unOp o _ x => (cOpd nt x).map (.un o)
  | .convert s d x => cConv P nt s d x
  | .makeInterface t x => (P.underlying t).bind fun d => if isIfaceD d then none else (cOpd nt x).map (.mki t)
  | .makeFunc (.func f) a b => (cOpds nt a.toList).bind fun a => (cOpds nt b.toList).map fun b => .mkf (.func f) a b
  | .makeMap _ none => some .mkm
  | .makeSlice t l c => cMks P nt t l c
  | .slice t x lo hi mx => cSlice P nt t x lo hi mx
  | .fieldAddr t x n => cFad P nt t x n
  | .field t x n => cFld P nt t x n
  | .indexAddr t x j => cIad P nt t x j
  | .index t x j => cIdx P nt t x j
  | .extract x j => (cOpd nt x).map (.xt · j)
  | .lookup t m k ok => (cMap P t).bind fun p => (zv P p.2).bind fun z => (cOpd nt m).bind fun m => (cOpd nt k).map fun k => .lkp p.1 z ok m k
  | .mapUpdate t m k v | .insert t m k v => (cMap P t).bind fun p => (cOpd nt m).bind fun m => (cOpd nt k).bind fun k => (cOpd nt v).map fun v => .mup p.1 m k v
  | .mapEntry t m k => (cMap P t).bind fun p => (zv P p.2).bind fun z => (cOpd nt m).bind fun m => (cOpd nt k).map fun k => .men p.1 z m k
  | .entryStore _ m s v => (cOpd nt m).bind fun m => (cOpd nt s).bind fun s => (cOpd nt v).map fun v => .mes m s v
  | .typeAssert x _ t ok => cTas P nt x t ok
  | .call c => cCall P nt c
  | _ => none

/-- an operation that K doesn't know is never run by it -/
def cOp (P : Program) (nt : Nat) (o : Op) : Option KOp := some ((cOp0 P nt o).getD .nev)

def isCall : KOp → Bool
  | .call _ _ | .callp _ _ | .callv _ _ | .inv _ _ _ => true
  | _ => false

section
variable {P : Program} {B : Nat} {w0 w : World} {ρ : Rho} {H : Heap}

theorem ground1_rel {v : Value} (h : ground1 v = true) : VRel P ρ v v ∧ oneC v = true := by
  unfold ground1 at h
  split at h <;> first
    | (cases h; done)
    | exact ⟨.bool _, rfl⟩
    | exact ⟨.int _ _, rfl⟩
    | exact ⟨.string _, rfl⟩
    | exact ⟨.pnil, rfl⟩
    | exact ⟨.snil, rfl⟩
    | exact ⟨.mnil, rfl⟩
    | exact ⟨.nilFunc, rfl⟩
    | exact ⟨.nilIface, rfl⟩
theorem groundL_rel {l : List Value} (h : l.all ground1 = true) : VL P ρ l l ∧ ∀ x ∈ l, oneC x = true := by
  rw [List.all_eq_true] at h
  exact ⟨⟨rfl, fun i x y hx hy => by rw [hx] at hy; cases hy; exact (ground1_rel (h x (List.mem_of_getElem? hx))).1⟩, fun x hx => (ground1_rel (P := P) (ρ := ρ) (h x hx)).2⟩
theorem groundV_rel {v : Value} (h : groundV v = true) : VRel P ρ v v := by
  unfold groundV at h
  split at h
  · rename_i xs
    obtain ⟨h1, h2⟩ := groundL_rel (P := P) (ρ := ρ) h
    exact .agg rfl (fun i x y hx hy => h1.2 i x y (by simpa using hx) (by simpa using hy)) (fun i x hx => h2 x (List.mem_of_getElem? (by simpa using hx)))
  · exact (ground1_rel h).1

/-- how K's slots stand to a frame's -/
def ERel (P : Program) (ρ : Rho) (e : Env) (a : Act) : Prop := ∀ n, VRel P ρ (e.get n) (a.tmps.getD n undef)

theorem ERel.mono {ρ ρ' : Rho} {e : Env} {a : Act} (h : ERel P ρ e a) (hp : ρ <+: ρ') : ERel P ρ' e a := fun n => (h n).mono hp

theorem opd_ok {nt : Nat} {x : Operand} {k : Opd} {e : Env} {a : Act} (he : ERel P ρ e a) (hc : cOpd nt x = some k) : VRel P ρ (e.ev k) (a.eval x) := by
  cases x with
  | tmp t => simp only [cOpd] at hc; split at hc <;> cases hc; exact he t
  | const v => simp only [cOpd] at hc; split at hc <;> cases hc; rename_i h; exact groundV_rel h
  | func f => simp only [cOpd] at hc; cases hc; exact .func _ rfl (fun i x y hx => by simp at hx) rfl (fun i x y hx => by simp at hx)
  | global g => cases hc

theorem opds_ok {nt : Nat} {e : Env} {a : Act} (he : ERel P ρ e a) : ∀ {xs : List Operand} {ks : List Opd}, cOpds nt xs = some ks → VL P ρ (ks.map e.ev) (xs.map a.eval)
  | [], ks, hc => by simp [cOpds] at hc; subst hc; exact VL.nil
  | x :: xs, ks, hc => by
    simp only [cOpds, Option.bind_eq_some_iff, Option.map_eq_some_iff] at hc
    obtain ⟨k, hk, l, hl, rfl⟩ := hc
    exact VL.cons (opd_ok he hk) (opds_ok he hl)

theorem zc_some {t : TypeId} {z : List Value} (h : zc P t = some z) : ∃ i zz, P.info? t = some i ∧ i.zero = some zz ∧ z = zz.cells.toList ∧ zz.cells.size = i.size ∧ z.all ground1 = true := by
  simp only [zc, Option.bind_eq_some_iff] at h
  obtain ⟨i, hi, zz, hz, h⟩ := h
  split at h
  · rename_i hc
    simp only [Bool.and_eq_true, decide_eq_true_eq] at hc
    cases h
    exact ⟨i, zz, hi, hz, rfl, hc.2, hc.1⟩
  · cases h
theorem zv_some {t : TypeId} {z : Value} (h : zv P t = some z) : ∃ i, P.info? t = some i ∧ i.zero = some z ∧ groundV z = true := by
  simp only [zv, Option.bind_eq_some_iff] at h
  obtain ⟨i, hi, zz, hz, h⟩ := h
  split at h
  · cases h; exact ⟨i, hi, hz, by assumption⟩
  · cases h

/-- what an operation comes to -/
def OpGives (P : Program) (B : Nat) (w0 : World) (ρ : Rho) (s : Sem Next) (w : World) (v : Value) (H' : Heap) : Prop :=
  ∃ ρ' r w', s.run P w = .ok r w' ∧ ρ <+: ρ' ∧ HRel P B w0 ρ' H' w' ∧ ((∃ v', r = .value v' ∧ VRel P ρ' v v') ∨ (r = .skip ∧ v = undef))

theorem Gives.op {s : Sem Value} {v : Value} {H' : Heap} (h : Gives P B w0 ρ s w v H') : OpGives P B w0 ρ (do pure (.value (← s))) w v H' := by
  obtain ⟨ρ', v', w', hr, hp, hv, hH⟩ := h
  exact ⟨ρ', .value v', w', by simp [hr], hp, hH, .inl ⟨v', rfl, hv⟩⟩
theorem GivesU.op {s : Sem Unit} {H' : Heap} (h : GivesU P B w0 ρ s w H') : OpGives P B w0 ρ (do s; pure .skip) w undef H' := by
  obtain ⟨ρ', w', hr, hp, hH⟩ := h
  exact ⟨ρ', .skip, w', by simp [hr], hp, hH, .inr ⟨rfl, rfl⟩⟩

theorem parts_ok {nt : Nat} {e : Env} {a : Act} (he : ERel P ρ e a) {place : Nat → Option (Nat × Nat)} : ∀ {ps : List (Nat × Operand)} {ks : List (Nat × Nat × Opd)}, cParts nt place ps = some ks →
    (evPs e ks).length = (ps.map fun p => (p.1, a.eval p.2)).length ∧ ∀ (j : Nat) p q, (evPs e ks)[j]? = some p → (ps.map fun p => (p.1, a.eval p.2))[j]? = some q → place q.1 = some (p.1, p.2.1) ∧ VRel P ρ p.2.2 q.2
  | [], ks, hc => by simp [cParts] at hc; subst hc; exact ⟨rfl, fun j p q hp => by simp [evPs] at hp⟩
  | (i, x) :: ps, ks, hc => by
    simp only [cParts, Option.bind_eq_some_iff, Option.map_eq_some_iff] at hc
    obtain ⟨pl, hpl, y, hy, l, hl, rfl⟩ := hc
    obtain ⟨h1, h2⟩ := parts_ok he hl
    refine ⟨by simpa [evPs] using h1, fun j p q hp hq => ?_⟩
    cases j with
    | zero =>
      simp [evPs] at hp hq
      subst hp; subst hq
      exact ⟨hpl, opd_ok he hy⟩
    | succ j => exact h2 j p q (by simpa [evPs] using hp) (by simpa using hq)

theorem eqS_ok {t : TypeId} {k : EqS} (h : eqS P t = some k) : EqTS P t k := by
  simp only [eqS, Option.bind_eq_some_iff] at h
  obtain ⟨d, hd, h⟩ := h
  cases d with
  | int k' => simp at h; subst h; exact ⟨_, hd⟩
  | string => simp at h; subst h; exact hd
  | bool => simp at h; subst h; exact hd
  | _ => simp at h
theorem flatK_ok : ∀ {fs : List Field} {j : Nat} {ks : List EqS}, flatK P fs j = some ks → FlatF P fs j ks
  | [], j, ks, h => by simp [flatK] at h; subst h; trivial
  | f :: fs, j, ks, h => by
    simp only [flatK] at h
    split at h
    · rename_i hc
      simp only [Option.bind_eq_some_iff, Option.map_eq_some_iff] at h
      obtain ⟨k, hk, l, hl, rfl⟩ := h
      exact ⟨hc.1, hc.2, eqS_ok hk, flatK_ok hl⟩
    · cases h
theorem eqK_ok {t : TypeId} {k : EqK} (h : eqK P t = some k) : EqT P t k := by
  simp only [eqK, Option.bind_eq_some_iff] at h
  obtain ⟨d, hd, h⟩ := h
  cases d with
  | int k' => simp at h; subst h; exact ⟨_, hd⟩
  | string => simp at h; subst h; exact hd
  | bool => simp at h; subst h; exact hd
  | pointer e => simp at h; subst h; exact ⟨_, hd⟩
  | slice e => simp at h; subst h; exact ⟨_, hd⟩
  | map a b => simp at h; subst h; exact ⟨_, _, hd⟩
  | func a b c => simp at h; subst h; exact ⟨_, _, _, hd⟩
  | interface a => simp at h; subst h; exact ⟨_, hd⟩
  | struct fs =>
    simp only at h
    split at h
    · rename_i hc
      simp only [Option.map_eq_some_iff] at h
      obtain ⟨l, hl, rfl⟩ := h
      exact ⟨hc.1, .inl ⟨fs, hd, hc.2, flatK_ok hl⟩⟩
    · cases h
  | array n e =>
    simp only at h
    split at h
    · rename_i hc
      simp only [Option.bind_eq_some_iff] at h
      obtain ⟨i, hi, h⟩ := h
      split at h
      · rename_i h1
        simp only [Option.map_eq_some_iff] at h
        obtain ⟨q, hq, rfl⟩ := h
        exact ⟨hc, .inr ⟨n, e, q, i, hd, hi, h1, eqS_ok hq, rfl⟩⟩
      · cases h
    · cases h
  | _ => simp at h

end
end Go.Proofs.Ytlboioplemlneaa.K
