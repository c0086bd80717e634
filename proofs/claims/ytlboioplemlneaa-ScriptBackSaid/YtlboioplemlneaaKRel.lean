/- How the abstract heap of K stands to the memory of the model: a place for each block, values cell by cell; what each step of memory does to that. -/
import Derived.Test.YtlboioplemlneaaKBase
namespace Go.Proofs.Ytlboioplemlneaa.K
open Go Go.RowKit

structure Loc where
  block : Nat
  off : Nat
  size : Nat
  elem : TypeId
abbrev Rho := List Loc

section
variable (P : Program)

inductive VRel (ρ : Rho) : Value → Value → Prop
  | bool (b : Bool) : VRel ρ (.bool b) (.bool b)
  | int (k : IntKind) (n : Int) : VRel ρ (.int k n) (.int k n)
  | string (s : ByteArray) : VRel ρ (.string s) (.string s)
  | pnil : VRel ρ (.pointer none) (.pointer none)
  | ptr {b off : Nat} {L : Loc} (h : ρ[b]? = some L) : VRel ρ (.pointer (some ⟨b, off, none⟩)) (.pointer (some ⟨L.block, L.off + off, none⟩))
  | snil : VRel ρ (.slice none 0 0) (.slice none 0 0)
  | sl {b off n c c' : Nat} {L : Loc} (h : ρ[b]? = some L) (hn : n ≤ c') (hc : c' = c ∨ c = capx) (hs : L.off + off + c' * P.cellsOf L.elem ≤ L.size) :
      VRel ρ (.slice (some ⟨b, off, none⟩) n c) (.slice (some ⟨L.block, L.off + off, none⟩) n c')
  | sl0 {b off : Nat} {a' : Addr} : VRel ρ (.slice (some ⟨b, off, none⟩) 0 capx) (.slice (some a') 0 0)
  | mnil : VRel ρ (.map none) (.map none)
  | map {b : Nat} {L : Loc} (h : ρ[b]? = some L) : VRel ρ (.map (some b)) (.map (some L.block))
  | func (f : Fn) {a a' c c' : Array Value} (hs : a.size = a'.size) (h : ∀ (i : Nat) x y, a[i]? = some x → a'[i]? = some y → VRel ρ x y)
      (hs2 : c.size = c'.size) (h2 : ∀ (i : Nat) x y, c[i]? = some x → c'[i]? = some y → VRel ρ x y) : VRel ρ (.func f a c) (.func f a' c')
  | nilFunc : VRel ρ .nilFunc .nilFunc
  | nilIface : VRel ρ .nilIface .nilIface
  | iface (t : TypeId) {v v' : Value} (h : VRel ρ v v') : VRel ρ (.iface t v) (.iface t v')
  | agg {xs ys : Array Value} (hs : xs.size = ys.size) (h : ∀ (i : Nat) x y, xs[i]? = some x → ys[i]? = some y → VRel ρ x y)
      (ho : ∀ (i : Nat) x, xs[i]? = some x → oneC x = true) : VRel ρ (.agg xs) (.agg ys)
  | tuple {xs ys : Array Value} (hs : xs.size = ys.size) (h : ∀ (i : Nat) x y, xs[i]? = some x → ys[i]? = some y → VRel ρ x y) :
      VRel ρ (.tuple xs) (.tuple ys)

variable {P}
theorem pre_get {ρ ρ' : Rho} (h : ρ <+: ρ') {b : Nat} {L : Loc} (hb : ρ[b]? = some L) : ρ'[b]? = some L := by
  obtain ⟨τ, rfl⟩ := h
  rw [List.getElem?_append_left (List.getElem?_eq_some_iff.1 hb).1]; exact hb

theorem VRel.mono {ρ ρ' : Rho} (h : ρ <+: ρ') {x y : Value} (hv : VRel P ρ x y) : VRel P ρ' x y := by
  induction hv with
  | bool b => exact .bool b
  | int k n => exact .int k n
  | string s => exact .string s
  | pnil => exact .pnil
  | ptr hb => exact .ptr (pre_get h hb)
  | snil => exact .snil
  | sl hb hn hc hs => exact .sl (pre_get h hb) hn hc hs
  | sl0 => exact .sl0
  | mnil => exact .mnil
  | map hb => exact .map (pre_get h hb)
  | func f hs _ hs2 _ ih1 ih2 => exact .func f hs ih1 hs2 ih2
  | nilFunc => exact .nilFunc
  | nilIface => exact .nilIface
  | iface t _ ih => exact .iface t ih
  | agg hs _ ho ih => exact .agg hs ih ho
  | tuple hs _ ih => exact .tuple hs ih

theorem VRel.undef {ρ : Rho} : VRel P ρ undef undef := .tuple rfl (fun i x y hx => by simp at hx)

theorem VRel.oneC_eq {ρ : Rho} {x y : Value} (h : VRel P ρ x y) : oneC y = oneC x := by cases h <;> rfl

/-- lists of values -/
def VL (P : Program) (ρ : Rho) (xs ys : List Value) : Prop := xs.length = ys.length ∧ ∀ (i : Nat) x y, xs[i]? = some x → ys[i]? = some y → VRel P ρ x y

theorem VL.mono {ρ ρ' : Rho} (h : ρ <+: ρ') {xs ys : List Value} (hv : VL P ρ xs ys) : VL P ρ' xs ys := ⟨hv.1, fun i x y hx hy => (hv.2 i x y hx hy).mono h⟩
theorem VL.nil {ρ : Rho} : VL P ρ [] [] := ⟨rfl, fun i x y hx => by simp at hx⟩
theorem VL.cons {ρ : Rho} {x y : Value} {xs ys : List Value} (h : VRel P ρ x y) (t : VL P ρ xs ys) : VL P ρ (x :: xs) (y :: ys) :=
  ⟨by simp [t.1], fun i a b ha hb => by
    cases i with
    | zero => simp at ha hb; subst ha; subst hb; exact h
    | succ i => simp at ha hb; exact t.2 i a b ha hb⟩
theorem VL.append {ρ : Rho} {xs ys xs' ys' : List Value} (h : VL P ρ xs ys) (t : VL P ρ xs' ys') : VL P ρ (xs ++ xs') (ys ++ ys') :=
  ⟨by simp [h.1, t.1], fun i a b ha hb => by
    rcases Nat.lt_or_ge i xs.length with hi | hi
    · rw [List.getElem?_append_left hi] at ha
      rw [List.getElem?_append_left (h.1 ▸ hi)] at hb
      exact h.2 i a b ha hb
    · rw [List.getElem?_append_right hi] at ha
      rw [List.getElem?_append_right (h.1 ▸ hi), ← h.1] at hb
      exact t.2 _ a b ha hb⟩
theorem VL.take {ρ : Rho} {xs ys : List Value} (h : VL P ρ xs ys) (n : Nat) : VL P ρ (xs.take n) (ys.take n) :=
  ⟨by simp [h.1], fun i a b ha hb => by
    rw [List.getElem?_take] at ha hb
    split at ha
    · rename_i hi; rw [if_pos hi] at hb; exact h.2 i a b ha hb
    · cases ha⟩
theorem VL.drop {ρ : Rho} {xs ys : List Value} (h : VL P ρ xs ys) (n : Nat) : VL P ρ (xs.drop n) (ys.drop n) :=
  ⟨by simp [h.1], fun i a b ha hb => by
    rw [List.getElem?_drop] at ha hb
    exact h.2 _ a b ha hb⟩
theorem VL.get {ρ : Rho} {xs ys : List Value} (h : VL P ρ xs ys) {i : Nat} {x : Value} (hx : xs[i]? = some x) : ∃ y, ys[i]? = some y ∧ VRel P ρ x y := by
  have hi : i < ys.length := h.1 ▸ (List.getElem?_eq_some_iff.1 hx).1
  exact ⟨ys[i], List.getElem?_eq_getElem hi, h.2 i x _ hx (List.getElem?_eq_getElem hi)⟩
theorem VL.arr {ρ : Rho} {xs ys : Array Value} (hs : xs.size = ys.size) (h : ∀ (i : Nat) x y, xs[i]? = some x → ys[i]? = some y → VRel P ρ x y) : VL P ρ xs.toList ys.toList :=
  ⟨by simpa using hs, fun i x y hx hy => h i x y (by simpa using hx) (by simpa using hy)⟩

/-- cells of the model's memory, read and written in rows -/
def ERelm (P : Program) (ρ : Rho) (x y : MapEntry) : Prop := VRel P ρ x.key y.key ∧ VRel P ρ x.val y.val ∧ x.born = y.born

def BRel (P : Program) (ρ : Rho) (w : World) (L : Loc) : Blk → Prop
  | .dead => True
  | .cells c t rw => L.elem = t ∧ ∃ (arr : Array Value) (tw : TypeId) (fr : Nat × Nat), w.heap[L.block]? = some (.cells arr tw fr) ∧ arr.size = L.size ∧ L.off + c.length ≤ arr.size ∧
      (∀ (i : Nat) x, c[i]? = some x → oneC x = true ∧ ∃ y, arr[L.off + i]? = some y ∧ VRel P ρ x y) ∧ (rw = true → ∀ i, i < arr.size → (decide (fr.1 ≤ i) && decide (i < fr.2)) = false)
  | .map es clock => ∃ es' : Array MapEntry, w.heap[L.block]? = some (.map es' clock) ∧ es'.size = es.length ∧ ∀ (i : Nat) x y, es[i]? = some x → es'[i]? = some y → ERelm P ρ x y

def Blk.own : Blk → Bool
  | .dead => false
  | .cells _ _ rw => rw
  | .map _ _ => true
def Blk.live : Blk → Bool
  | .dead => false
  | _ => true

structure HRel (P : Program) (B : Nat) (w0 : World) (ρ : Rho) (H : Heap) (w : World) : Prop where
  below : Below B w0 w
  base : B ≤ w.heap.size
  len : ρ.length = H.length
  blk : ∀ (b : Nat) L, ρ[b]? = some L → BRel P ρ w L (H.get b)
  own : ∀ (b : Nat) L, ρ[b]? = some L → (H.get b).own = true → B ≤ L.block
  inj : ∀ (b b' : Nat) L L', ρ[b]? = some L → ρ[b']? = some L' → b ≠ b' → (H.get b).own = true → (H.get b').live = true → L.block ≠ L'.block

/- the abstract heap -/
theorem Heap.get_eq (H : Heap) (b : Nat) : H.get b = (H[b]?).getD .dead := by
  induction H generalizing b with
  | nil => simp [Heap.get]
  | cons x H ih => cases b <;> simp [Heap.get, ih]
theorem Heap.length_put (H : Heap) (b : Nat) (x : Blk) : (H.put b x).length = H.length := by
  induction H generalizing b with
  | nil => simp [Heap.put]
  | cons y H ih => cases b <;> simp [Heap.put, ih]
theorem Heap.get_put (H : Heap) (b b' : Nat) (x : Blk) : (H.put b x).get b' = if b' = b ∧ b < H.next then x else H.get b' := by
  induction H generalizing b b' with
  | nil => simp [Heap.put, Heap.get, Heap.next]
  | cons y H ih =>
    cases b with
    | zero => cases b' <;> simp [Heap.put, Heap.get, Heap.next]
    | succ b =>
      cases b' with
      | zero => simp [Heap.put, Heap.get]
      | succ b' =>
        simp only [Heap.put, Heap.get, ih]
        by_cases hc : b' = b ∧ b < Heap.next H
        · rw [if_pos hc, if_pos ⟨by omega, by have := hc.2; simp only [Heap.next, List.length_cons] at this ⊢; omega⟩]
        · rw [if_neg hc, if_neg (fun h => hc ⟨by omega, by have := h.2; simp only [Heap.next, List.length_cons] at this ⊢; omega⟩)]
theorem Heap.get_push (H : Heap) (b : Nat) (x : Blk) : (H.push x).get b = if b = H.next then x else H.get b := by
  simp only [Heap.get_eq, Heap.push, Heap.next]
  rcases Nat.lt_trichotomy b H.length with h | h | h
  · rw [List.getElem?_append_left h, if_neg (by omega)]
  · subst h; simp
  · rw [List.getElem?_append_right (by omega), if_neg (by omega), List.getElem?_eq_none (l := H) (by omega)]
    simp only [Option.getD_none]
    rw [List.getElem?_eq_none (by simp; omega)]; rfl
theorem Heap.lt_of_live {H : Heap} {b : Nat} (h : (H.get b).live = true) : b < H.next := by
  rw [Heap.get_eq] at h
  rcases Nat.lt_or_ge b H.length with h' | h'
  · exact h'
  · rw [List.getElem?_eq_none h'] at h; simp [Blk.live] at h
theorem Heap.next_put (H : Heap) (b : Nat) (x : Blk) : (H.put b x).next = H.next := Heap.length_put H b x
theorem Heap.next_push (H : Heap) (x : Blk) : (H.push x).next = H.next + 1 := by simp [Heap.push, Heap.next]

theorem own_live {b : Blk} (h : b.own = true) : b.live = true := by cases b <;> simp_all [Blk.own, Blk.live]

theorem rho_of_live {B : Nat} {w0 w : World} {ρ : Rho} {H : Heap} (h : HRel P B w0 ρ H w) {b : Nat} (hb : (H.get b).live = true) : ∃ L, ρ[b]? = some L := by
  have := Heap.lt_of_live hb
  exact ⟨ρ[b]'(by rw [h.len]; exact this), List.getElem?_eq_getElem _⟩

theorem BRel.mono {ρ ρ' : Rho} (h : ρ <+: ρ') {w w' : World} {L : Loc} {x : Blk} (hw : x.live = true → w'.heap[L.block]? = w.heap[L.block]?) (hx : BRel P ρ w L x) : BRel P ρ' w' L x := by
  cases x with
  | dead => trivial
  | cells c t rw =>
    obtain ⟨h1, arr, tw, fr, h2, h3, h4, h5, h6⟩ := hx
    exact ⟨h1, arr, tw, fr, (hw rfl).trans h2, h3, h4, fun i x hx => ⟨(h5 i x hx).1, let ⟨y, hy, hv⟩ := (h5 i x hx).2; ⟨y, hy, hv.mono h⟩⟩, h6⟩
  | map es clock =>
    obtain ⟨es', h2, h3, h4⟩ := hx
    exact ⟨es', (hw rfl).trans h2, h3, fun i x y hx hy => ⟨(h4 i x y hx hy).1.mono h, (h4 i x y hx hy).2.1.mono h, (h4 i x y hx hy).2.2⟩⟩

theorem BRel.lt {ρ : Rho} {w : World} {L : Loc} {x : Blk} (hx : BRel P ρ w L x) (hl : x.live = true) : L.block < w.heap.size := by
  cases x with
  | dead => cases hl
  | cells c t rw => obtain ⟨_, arr, tw, fr, h2, _⟩ := hx; exact (Array.getElem?_eq_some_iff.1 h2).1
  | map es clock => obtain ⟨es', h2, _⟩ := hx; exact (Array.getElem?_eq_some_iff.1 h2).1

section
variable {B : Nat} {w0 w : World} {ρ : Rho} {H : Heap}

/-- the world turned where no block lives -/
theorem HRel.world {w' : World} (h : HRel P B w0 ρ H w) (hb : Below B w w') (hw : ∀ i, i < w.heap.size → w'.heap[i]? = w.heap[i]?) : HRel P B w0 ρ H w' :=
  ⟨h.below.trans hb, Nat.le_trans h.base hb.size, h.len, fun b L hL => (h.blk b L hL).mono (List.prefix_refl _) (fun hl => hw _ ((h.blk b L hL).lt hl)), h.own, h.inj⟩

theorem HRel.drew (h : HRel P B w0 ρ H w) : HRel P B w0 ρ H w.drew := h.world ((Below.refl B w).drew) (fun _ _ => rfl)

/-- a new block, at a place where none lives -/
theorem HRel.push_at (h : HRel P B w0 ρ H w) {x : Blk} {L : Loc} {w' : World} (hB : B ≤ L.block) (hfree : ∀ (b : Nat) L', ρ[b]? = some L' → (H.get b).live = true → L'.block ≠ L.block)
    (hb : Below B w w') (hw : ∀ i, i ≠ L.block → i < w.heap.size → w'.heap[i]? = w.heap[i]?) (hx : BRel P (ρ ++ [L]) w' L x) : HRel P B w0 (ρ ++ [L]) (H.push x) w' := by
  have hpre : ρ <+: ρ ++ [L] := List.prefix_append _ _
  have hget : ∀ b L', (ρ ++ [L])[b]? = some L' → (b = H.next ∧ L' = L) ∨ (b < H.next ∧ ρ[b]? = some L') := by
    intro b L' hb
    rcases Nat.lt_or_ge b ρ.length with hlt | hge
    · rw [List.getElem?_append_left hlt] at hb; exact .inr ⟨by rw [Heap.next, ← h.len]; exact hlt, hb⟩
    · rw [List.getElem?_append_right hge] at hb
      have : b - ρ.length = 0 := by
        rcases Nat.eq_zero_or_pos (b - ρ.length) with h0 | h0
        · exact h0
        · rw [List.getElem?_eq_none (by simp; omega)] at hb; cases hb
      rw [this] at hb; simp at hb
      exact .inl ⟨by rw [Heap.next, ← h.len]; omega, hb.symm⟩
  refine ⟨h.below.trans hb, Nat.le_trans h.base hb.size, by simp [Heap.push, h.len], ?_, ?_, ?_⟩
  · intro b L' hb
    rcases hget b L' hb with ⟨rfl, rfl⟩ | ⟨hlt, hb'⟩
    · rw [Heap.get_push, if_pos rfl]; exact hx
    · rw [Heap.get_push, if_neg (by omega)]
      exact (h.blk b L' hb').mono hpre (fun hl => hw _ (hfree b L' hb' hl) ((h.blk b L' hb').lt hl))
  · intro b L' hb ho
    rcases hget b L' hb with ⟨rfl, rfl⟩ | ⟨hlt, hb'⟩
    · exact hB
    · rw [Heap.get_push, if_neg (by omega)] at ho; exact h.own b L' hb' ho
  · intro b b' L1 L2 h1 h2 hne ho hl
    rcases hget b L1 h1 with ⟨rfl, rfl⟩ | ⟨hlt, hb⟩ <;> rcases hget b' L2 h2 with ⟨rfl, rfl⟩ | ⟨hlt', hb'⟩
    · exact absurd rfl hne
    · rw [Heap.get_push, if_neg (by omega)] at hl
      exact (hfree b' L2 hb' hl).symm
    · rw [Heap.get_push, if_neg (by omega)] at ho
      exact hfree b L1 hb (own_live ho)
    · rw [Heap.get_push, if_neg (by omega)] at ho hl
      exact h.inj b b' L1 L2 hb hb' hne ho hl

/-- a new block -/
theorem HRel.push (h : HRel P B w0 ρ H w) {x : Blk} {o : Obj} {L : Loc} (hL : L.block = w.heap.size) (hx : BRel P (ρ ++ [L]) (w.alloc o) L x) :
    HRel P B w0 (ρ ++ [L]) (H.push x) (w.alloc o) :=
  h.push_at (hL ▸ h.base) (fun b L' hb hl e => by have := (h.blk b L' hb).lt hl; omega) ((Below.refl B w).alloc h.base o) (fun i _ hi => Below.heap_alloc _ _ _ hi) hx

/-- a block of one's own is written -/
theorem HRel.put (h : HRel P B w0 ρ H w) {b : Nat} {x : Blk} {w' : World} (ho : (H.get b).own = true) {L : Loc} (hL : ρ[b]? = some L) (hx : BRel P ρ w' L x)
    (hb : Below B w w') (hw : ∀ i, i ≠ L.block → w'.heap[i]? = w.heap[i]?) : HRel P B w0 ρ (H.put b x) w' := by
  have hlt : b < H.next := Heap.lt_of_live (own_live ho)
  have hg : ∀ b', (H.put b x).get b' = if b' = b then x else H.get b' := fun b' => by rw [Heap.get_put]; simp [hlt]
  refine ⟨h.below.trans hb, Nat.le_trans h.base hb.size, by rw [h.len, Heap.length_put], ?_, ?_, ?_⟩
  · intro b' L' hb'
    rw [hg]
    split
    · rename_i he; subst he; rw [hL] at hb'; cases hb'; exact hx
    · rename_i hne
      exact (h.blk b' L' hb').mono (List.prefix_refl _) (fun hl => hw _ (fun e => h.inj b b' L L' hL hb' (Ne.symm hne) ho hl e.symm))
  · intro b' L' hb' ho'
    rw [hg] at ho'
    split at ho'
    · rename_i he; subst he; rw [hL] at hb'; cases hb'; exact h.own b' L hL ho
    · exact h.own b' L' hb' ho'
  · intro b1 b2 L1 L2 h1 h2 hne ho1 hl2
    rw [hg] at ho1 hl2
    have ho1' : (H.get b1).own = true := by
      split at ho1
      · rename_i he; rw [he]; exact ho
      · exact ho1
    have hl2' : (H.get b2).live = true := by
      split at hl2
      · rename_i he; rw [he]; exact own_live ho
      · exact hl2
    exact h.inj b1 b2 L1 L2 h1 h2 hne ho1' hl2'

/-- a block is not looked at any more -/
theorem HRel.kill (h : HRel P B w0 ρ H w) (b : Nat) : HRel P B w0 ρ (H.put b .dead) w := by
  refine ⟨h.below, h.base, by rw [h.len, Heap.length_put], ?_, ?_, ?_⟩
  · intro b' L' hb'
    rw [Heap.get_put]; split
    · trivial
    · exact h.blk b' L' hb'
  · intro b' L' hb' ho'
    rw [Heap.get_put] at ho'; split at ho'
    · cases ho'
    · exact h.own b' L' hb' ho'
  · intro b1 b2 L1 L2 h1 h2 hne ho1 hl2
    rw [Heap.get_put] at ho1 hl2
    split at ho1
    · cases ho1
    · split at hl2
      · cases hl2
      · exact h.inj b1 b2 L1 L2 h1 h2 hne ho1 hl2

end
end
end Go.Proofs.Ytlboioplemlneaa.K
