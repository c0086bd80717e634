/- Reading numbers and texts from bytes: what the program's reader does. -/
import Derived.Test.YtlboioplemlneaaPHuffA
import Derived.Test.YtlboioplemlneaaKStr
set_option maxRecDepth 100000
set_option maxHeartbeats 2000000
set_option linter.unusedVariables false
set_option linter.unusedSimpArgs false
namespace Go.Proofs.Ytlboioplemlneaa.K
open Go Go.Proofs
/-- a reader: what is left, and whether it is bad -/
def RdB (l : Bytes) (bad : Bool) : Blk := .cells [.string (ofL l), .bool bad] 134 true
def Rd (H : Heap) (b : Nat) (l : Bytes) (bad : Bool) : Prop := H.get b = RdB l bad
theorem Rd.lt {H : Heap} {b : Nat} {l : Bytes} {bad : Bool} (h : Rd H b l bad) : b < H.next := lt_cells h
theorem rd_put {H : Heap} {b : Nat} {l : Bytes} {bad : Bool} (h : b < H.next) : Rd (H.put b (RdB l bad)) b l bad := get_put_eq h
section
variable {H : Heap} {b : Nat} {l : Bytes} {bad : Bool}
theorem curNew_t (l : Bytes) : Wf S 49 [.string (ofL l)] H fun v H' => v = .pointer (some ⟨H.next, 0, none⟩) ∧ H' = H.push (RdB l false) := by
  refine w49 rfl rfl _ ?_
  simp [s49, kFill, evPs, isTup, cellsL, wr, RdB]
theorem Bad_t (h : Rd H b l bad) : Wf S 101 [.pointer (some ⟨b, 0, none⟩)] H fun v H' => H' = H ∧ v = .bool bad := by
  refine w101 rfl rfl _ ?_
  have h' : H.get b = .cells [.string (ofL l), .bool bad] 134 true := h
  simp [s101, kEq, addOff, h']
theorem fail_t (h : Rd H b l bad) : Wf S 126 [.pointer (some ⟨b, 0, none⟩)] H fun v H' => H' = H.put b (RdB [] true) := by
  refine w126 rfl rfl _ ?_
  have h' : H.get b = .cells [.string (ofL l), .bool bad] 134 true := h
  have hlt := h.lt
  simp [s126, kEq, addOff, kSt, h', oneC, get_put_eq hlt, put_put, RdB, bs_ofL]
/-- what a reader gives of n bytes, and what it is then -/
def rawOut (l : Bytes) (bad : Bool) (n : Nat) : Bytes := if bad = true ∨ l.length < n then [] else l.take n
def rawL (l : Bytes) (bad : Bool) (n : Nat) : Bytes := if bad = true ∨ l.length < n then [] else l.drop n
def rawB (l : Bytes) (bad : Bool) (n : Nat) : Bool := bad || decide (l.length < n)
theorem Raw_t (h : Rd H b l bad) (n : Int) : Wf S 102 [.pointer (some ⟨b, 0, none⟩), .int .i64 n] H fun v H' => v = .string (ofL (rawOut l bad n.toNat)) ∧ H' = H.put b (RdB (rawL l bad n.toNat) (rawB l bad n.toNat)) := by
  refine w102 rfl rfl _ _ ?_
  have h' : H.get b = .cells [.string (ofL l), .bool bad] 134 true := h
  have hlt := h.lt
  have hmx : max n 0 = (n.toNat : Int) := by omega
  generalize n.toNat = k at hmx
  simp [s102, hmx]
  refine (Bad_t h).mono ?_
  rintro v H1 ⟨rfl, rfl⟩
  cases bad with
  | true =>
    simp
    refine (fail_t h).mono ?_
    rintro v H2 rfl
    simp [rawOut, rawL, rawB, bs_ofL]
  | false =>
    by_cases g : l.length < k
    · have g' : (l.length : Int) < k := by omega
      simp [addOff, h', ofL_size, g, g']
      refine (fail_t h).mono ?_
      rintro v H2 rfl
      simp [rawOut, rawL, rawB, bs_ofL, g]
    · have g' : ¬ (l.length : Int) < k := by omega
      have g2 : k ≤ l.length := by omega
      have g3 : (k : Int) ≤ l.length := by omega
      simp [addOff, h', ofL_size, g, g', s_upto, s_from, g2, g3, kSt, oneC]
      simp [rawOut, rawL, rawB, g, RdB]
theorem Rest_t (h : Rd H b l bad) : Wf S 57 [.pointer (some ⟨b, 0, none⟩)] H fun v H' => v = .string (ofL (if bad then [] else l)) ∧ H' = if bad then H else H.put b (RdB [] false) := by
  refine w57 rfl rfl _ ?_
  have h' : H.get b = .cells [.string (ofL l), .bool bad] 134 true := h
  simp [s57]
  refine (Bad_t h).mono ?_
  rintro v H1 ⟨rfl, rfl⟩
  cases bad with
  | true => simp [bs_ofL]
  | false =>
    simp [addOff, h', ofL_size]
    refine (Raw_t h _).mono ?_
    rintro v H2 ⟨rfl, rfl⟩
    simp [rawOut, rawL, rawB]
theorem size_t (H : Heap) (n : Int) : Wf S 105 [.int .i64 n] H fun v H' => H' = H ∧ v = .int .i64 (min (max n 0) 8) := by
  refine w105 rfl rfl _ ?_
  simp [s105]
theorem kb_or {k : IntKind} {a b : Int} : kBin .or (.int k a) (.int k b) = some (.int k (k.wrap (BitVec.ofInt k.bits a ||| BitVec.ofInt k.bits b).toNat)) := by simp [kBin, kInt]
theorem kb_and {k : IntKind} {a b : Int} : kBin .and (.int k a) (.int k b) = some (.int k (k.wrap (BitVec.ofInt k.bits a &&& BitVec.ofInt k.bits b).toNat)) := by simp [kBin, kInt]
theorem wu64 {x : Int} (h0 : 0 ≤ x) (h1 : x < 18446744073709551616) : IntKind.u64.wrap x = x := by
  simp [IntKind.wrap, IntKind.signed, IntKind.bits]; omega
/-- one byte, as a number; 0 if there is none -/
theorem Fixed1_t (h : Rd H b l bad) : Wf S 99 [.pointer (some ⟨b, 0, none⟩), .int .i64 1] H fun v H' => v = .int .u64 ((rawOut l bad 1).headD 0).toNat ∧ Rd H' b (rawL l bad 1) (rawB l bad 1) ∧ H.next ≤ H'.next ∧ ∀ k, k < H.next → k ≠ b → H'.get k = H.get k := by
  refine w99 rfl rfl _ _ ?_
  simp [s99]
  refine (size_t H 1).mono ?_
  rintro v H1 ⟨rfl, rfl⟩
  try simp
  refine (Raw_t h _).mono ?_
  rintro v H2 ⟨rfl, rfl⟩
  have e1 : (min (max 1 0) 8 : Int).toNat = 1 := by decide
  rw [e1]
  have hlt := h.lt
  have hrd := rd_put (l := rawL l bad 1) (bad := rawB l bad 1) hlt
  have hlen : (rawOut l bad 1).length ≤ 1 := by unfold rawOut; split <;> simp; omega
  rw [s_s2b (by unfold roomMax; omega)]
  have hold : ∀ k, k < H1.next → k ≠ b → (H1.put b (RdB (rawL l bad 1) (rawB l bad 1))).get k = H1.get k := fun k _ hk => get_put_ne hk
  have hnx : (H1.put b (RdB (rawL l bad 1) (rawB l bad 1))).next = H1.next := next_put
  generalize H1.put b (RdB (rawL l bad 1) (rawB l bad 1)) = H3 at *
  simp
  cases ho : rawOut l bad 1 with
  | nil =>
    refine u99_0 S ?_
    simp [s99_0]
    refine ⟨?_, by omega, fun k hk hkb => by rw [if_pos (by omega)]; exact hold k hk hkb⟩
    unfold Rd; rw [get_old (by omega)]; exact hrd
  | cons c cs =>
    have hcs : cs = [] := by rw [ho] at hlen; cases cs with | nil => rfl | cons _ _ => simp at hlen
    subst hcs
    have hz : IntKind.i64.wrap 0 = 0 := by decide
    have hmin : min 0 IntKind.u64.bits = 0 := by decide
    have hc : c.toNat < 256 := c.toNat_lt
    have hwu : IntKind.u64.wrap (c.toNat : Int) = c.toNat := wu64 (by omega) (by omega)
    have hor : IntKind.u64.wrap ((c.toNat : Int) % 2 ^ IntKind.u64.bits) = c.toNat := by
      have : ((c.toNat : Int) % 2 ^ IntKind.u64.bits) = c.toNat := by
        have : IntKind.u64.bits = 64 := rfl
        rw [this]; omega
      rw [this]; exact hwu
    have hw1 : IntKind.i64.wrap 1 = 1 := by decide
    refine u99_0 S ?_
    simp [s99_0, addOff, bvs, bv, kb_shl, kb_or, hz, hmin, hwu, hor, hw1]
    refine u99_0 S ?_
    simp [s99_0]
    refine ⟨?_, by omega, fun k hk hkb => by rw [if_pos (by omega)]; exact hold k hk hkb⟩
    unfold Rd; rw [get_old (by omega)]; exact hrd
end
end Go.Proofs.Ytlboioplemlneaa.K
