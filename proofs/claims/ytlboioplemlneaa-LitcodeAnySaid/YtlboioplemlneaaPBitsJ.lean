/- Which bits stand where, plainly. -/
import Derived.Test.YtlboioplemlneaaPBitsG
set_option maxRecDepth 100000
set_option maxHeartbeats 2000000
set_option linter.unusedVariables false
namespace Go.Proofs.Ytlboioplemlneaa.K
open Go Go.Proofs
theorem bitsB_len (s : Bytes) : (bitsB s).length = 8 * s.length := by
  induction s with
  | nil => rfl
  | cons x t ih =>
    have : bitsB (x :: t) = bitsN x.toNat 8 ++ bitsB t := rfl
    rw [this, List.length_append, ih, bitsN_len, List.length_cons]; omega
theorem bitsB_get : ∀ (s : Bytes) (i : Nat), i < 8 * s.length → (bitsB s)[i]? = some ((bitAt s i : Nat) : Int)
  | [], i, h => by simp at h
  | x :: t, i, h => by
    have e : bitsB (x :: t) = bitsN x.toNat 8 ++ bitsB t := rfl
    rw [e]
    rcases Nat.lt_or_ge i 8 with h8 | h8
    · rw [List.getElem?_append_left (by rw [bitsN_len]; exact h8)]
      have q1 : i / 8 = 0 := by omega
      have q2 : i % 8 = i := by omega
      simp [bitsN, h8, bitAt, q1, q2]
    · rw [List.getElem?_append_right (by rw [bitsN_len]; exact h8), bitsN_len, bitsB_get t (i - 8) (by rw [List.length_cons] at h; omega)]
      have q1 : i / 8 = (i - 8) / 8 + 1 := by omega
      have q2 : i % 8 = (i - 8) % 8 := by omega
      unfold bitAt
      rw [q1, q2, List.getD_cons_succ]
theorem rev_bit (s : Bytes) (a : Nat) : ∀ n i, i < n → revB s a n / 2 ^ (n - 1 - i) % 2 = bitAt s (a + i)
  | 0, i, h => by omega
  | n + 1, i, h => by
    have hb := bitAt_lt s (a + n)
    simp only [revB]
    rcases Nat.lt_or_ge i n with h1 | h1
    · have e : n + 1 - 1 - i = (n - 1 - i) + 1 := by omega
      rw [e, Nat.pow_succ, Nat.mul_comm (2 ^ (n - 1 - i)), ← Nat.div_div_eq_div_mul]
      have : (2 * revB s a n + bitAt s (a + n)) / 2 = revB s a n := by omega
      rw [this, rev_bit s a n i h1]
    · have e : i = n := by omega
      subst e
      have : i + 1 - 1 - i = 0 := by omega
      rw [this, Nat.pow_zero, Nat.div_one]; omega
theorem bits_inj {c d n : Nat} (hc : c < 2 ^ n) (hd : d < 2 ^ n) (h : ∀ k, k < n → c / 2 ^ k % 2 = d / 2 ^ k % 2) : c = d := by
  apply Nat.eq_of_testBit_eq
  intro k
  rcases Nat.lt_or_ge k n with hk | hk
  · rw [Nat.testBit_eq_decide_div_mod_eq, Nat.testBit_eq_decide_div_mod_eq, h k hk]
  · have hp : 2 ^ n ≤ 2 ^ k := Nat.pow_le_pow_right (by omega) hk
    rw [Nat.testBit_lt_two_pow (by omega), Nat.testBit_lt_two_pow (by omega)]
/-- bits begin with a code where the number that stands there is the code -/
theorem begins_iff {s : Bytes} {a c n : Nat} (hc : c < 2 ^ n) (hn : a + n ≤ 8 * s.length) : ((bitsB s).drop a).take n = topB c n n ↔ revB s a n = c := by
  have hget : ∀ i, i < n → (((bitsB s).drop a).take n)[i]? = some ((bitAt s (a + i) : Nat) : Int) := fun i hi => by
    rw [List.getElem?_take, if_pos hi, List.getElem?_drop, bitsB_get s (a + i) (by omega)]
  have htop : ∀ i, i < n → (topB c n n)[i]? = some ((c / 2 ^ (n - 1 - i) % 2 : Nat) : Int) := fun i hi => by simp [topB, hi]
  constructor
  · intro h
    refine bits_inj (revB_lt s a n) hc fun k hk => ?_
    have h1 := hget (n - 1 - k) (by omega)
    rw [h, htop _ (by omega)] at h1
    have e : n - 1 - (n - 1 - k) = k := by omega
    have h2 := rev_bit s a n (n - 1 - k) (by omega)
    rw [e] at h1 h2
    have h3 := Option.some.inj h1
    omega
  · intro h
    apply List.ext_getElem?
    intro i
    rcases Nat.lt_or_ge i n with hi | hi
    · rw [hget i hi, htop i hi, ← h, rev_bit s a n i hi]
    · rw [List.getElem?_eq_none (by rw [List.length_take]; omega), List.getElem?_eq_none (by simp [topB]; omega)]
/-- turned round, the first bit is the lowest -/
theorem turn_bit (c : Nat) : ∀ n i, i < n → turnN c n / 2 ^ i % 2 = c / 2 ^ (n - 1 - i) % 2
  | 0, i, h => by omega
  | n + 1, 0, h => by
    simp only [turnN, Nat.pow_zero, Nat.div_one]
    have : n + 1 - 1 - 0 = n := by omega
    rw [this]; omega
  | n + 1, i + 1, h => by
    simp only [turnN]
    have hb : c / 2 ^ n % 2 < 2 := Nat.mod_lt _ (by omega)
    rw [Nat.pow_succ, Nat.mul_comm (2 ^ i), ← Nat.div_div_eq_div_mul]
    have : (2 * turnN c n + c / 2 ^ n % 2) / 2 = turnN c n := by omega
    rw [this, turn_bit c n i (by omega)]
    have : n + 1 - 1 - (i + 1) = n - 1 - i := by omega
    rw [this]
theorem turn_bits (c n : Nat) : bitsN (turnN c n) n = topB c n n := by
  unfold bitsN topB
  refine List.map_congr_left fun i hi => ?_
  rw [turn_bit c n i (by simpa using hi)]
end Go.Proofs.Ytlboioplemlneaa.K
