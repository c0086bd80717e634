/- A writer's bits as one number: what its bytes are, plainly. -/
import Derived.Test.YtlboioplemlneaaPBitsH
set_option maxRecDepth 100000
set_option maxHeartbeats 2000000
set_option linter.unusedVariables false
namespace Go.Proofs.Ytlboioplemlneaa.K
open Go Go.Proofs
/-- a number's byte -/
def nby (V j : Nat) : Nat := V / 2 ^ (8 * j) % 256
/-- n bits, of the number V, as bytes -/
def packN (V n : Nat) : Bytes := (List.range ((n + 7) / 8)).map fun j => UInt8.ofNat (nby V j)
theorem packN_len (V n : Nat) : (packN V n).length = (n + 7) / 8 := by simp [packN]
theorem nby_lt (V j : Nat) : nby V j < 256 := Nat.mod_lt _ (by omega)
theorem nby_add {V n j m : Nat} (h : 8 * j ≤ n) : (V + m * 2 ^ n) / 2 ^ (8 * j) = V / 2 ^ (8 * j) + m * 2 ^ (n - 8 * j) := by
  have e : 2 ^ n = 2 ^ (n - 8 * j) * 2 ^ (8 * j) := by rw [← Nat.pow_add]; congr 1; omega
  rw [e, ← Nat.mul_assoc, Nat.add_mul_div_right _ _ (Nat.pow_pos (by omega))]
theorem nby_low {V n j m : Nat} (h : j < n / 8) : nby (V + m * 2 ^ n) j = nby V j := by
  unfold nby
  rw [nby_add (by omega)]
  have e : 2 ^ (n - 8 * j) = 2 ^ (n - 8 * j - 8) * 256 := by
    rw [show (256 : Nat) = 2 ^ 8 from by decide, ← Nat.pow_add]; congr 1; omega
  rw [e, ← Nat.mul_assoc, Nat.add_mul_mod_self_right]
theorem nby_top {V n : Nat} (hV : V < 2 ^ n) : V / 2 ^ (8 * (n / 8)) < 2 ^ (n % 8) := by
  rw [Nat.div_lt_iff_lt_mul (Nat.pow_pos (by omega)), ← Nat.pow_add]
  have : n % 8 + 8 * (n / 8) = n := by omega
  rw [this]; exact hV
theorem nby_at {V n m k : Nat} (hV : V < 2 ^ n) (hm : m < 2 ^ k) (hk : k + n % 8 ≤ 8) : nby (V + m * 2 ^ n) (n / 8) = nby V (n / 8) + m * 2 ^ (n % 8) := by
  have ht := nby_top hV
  have hn : n - 8 * (n / 8) = n % 8 := by omega
  have h8 : 2 ^ (n % 8) ≤ 2 ^ 8 := Nat.pow_le_pow_right (by omega) (by omega)
  have e8 : (2 : Nat) ^ 8 = 256 := by decide
  have hs : nby V (n / 8) = V / 2 ^ (8 * (n / 8)) := by unfold nby; exact Nat.mod_eq_of_lt (by omega)
  rw [hs]
  unfold nby
  rw [nby_add (by omega), hn]
  apply Nat.mod_eq_of_lt
  have h1 : (m + 1) * 2 ^ (n % 8) ≤ 2 ^ k * 2 ^ (n % 8) := Nat.mul_le_mul_right _ hm
  have h2 : 2 ^ k * 2 ^ (n % 8) ≤ 2 ^ 8 := by rw [← Nat.pow_add]; exact Nat.pow_le_pow_right (by omega) hk
  rw [Nat.succ_mul] at h1
  omega
theorem nby_zero {V n j : Nat} (hV : V < 2 ^ n) (h : n ≤ 8 * j) : nby V j = 0 := by
  unfold nby
  have : 2 ^ n ≤ 2 ^ (8 * j) := Nat.pow_le_pow_right (by omega) h
  rw [Nat.div_eq_of_lt (by omega)]
theorem put_lt {V n m k : Nat} (hV : V < 2 ^ n) (hm : m < 2 ^ k) : V + m * 2 ^ n < 2 ^ (n + k) := by
  have h1 : (m + 1) * 2 ^ n ≤ 2 ^ k * 2 ^ n := Nat.mul_le_mul_right _ hm
  rw [Nat.succ_mul] at h1
  rw [Nat.pow_add, Nat.mul_comm (2 ^ n)]
  omega
theorem packN_get {V n j : Nat} (h : j < (n + 7) / 8) : (packN V n)[j]? = some (UInt8.ofNat (nby V j)) := by simp [packN, h]
/-- bits that begin a byte -/
theorem packN_new {V n m k : Nat} (hV : V < 2 ^ n) (hm : m < 2 ^ k) (h0 : n % 8 = 0) (hk : 0 < k) (hk8 : k ≤ 8) : packN (V + m * 2 ^ n) (n + k) = packN V n ++ [UInt8.ofNat m] := by
  apply List.ext_getElem?
  intro j
  have hl := packN_len V n
  have hq : (n + 7) / 8 = n / 8 := by omega
  have hq2 : (n + k + 7) / 8 = n / 8 + 1 := by omega
  rcases Nat.lt_trichotomy j (n / 8) with h | h | h
  · rw [packN_get (by omega), List.getElem?_append_left (by omega), packN_get (by omega), nby_low h]
  · rw [packN_get (by omega), List.getElem?_append_right (by omega), hl, hq, h, Nat.sub_self, nby_at hV hm (by omega), nby_zero hV (by omega), h0]
    simp
  · rw [List.getElem?_eq_none (by rw [packN_len]; omega), List.getElem?_eq_none (by simp [hl]; omega)]
/-- bits that go on in a byte -/
theorem packN_on {V n m k : Nat} (hV : V < 2 ^ n) (hm : m < 2 ^ k) (h0 : 0 < n % 8) (hk : 0 < k) (hk8 : k + n % 8 ≤ 8) : packN (V + m * 2 ^ n) (n + k) = (packN V n).set (n / 8) (UInt8.ofNat (nby V (n / 8) + m * 2 ^ (n % 8))) := by
  apply List.ext_getElem?
  intro j
  have hl := packN_len V n
  have hq : (n + 7) / 8 = n / 8 + 1 := by omega
  have hq2 : (n + k + 7) / 8 = n / 8 + 1 := by omega
  rcases Nat.lt_trichotomy j (n / 8) with h | h | h
  · rw [packN_get (by omega), List.getElem?_set_ne (by omega), packN_get (by omega), nby_low h]
  · rw [packN_get (by omega), h, List.getElem?_set_self (by omega), nby_at hV hm (by omega)]
  · rw [List.getElem?_eq_none (by rw [packN_len]; omega), List.getElem?_eq_none (by rw [List.length_set, hl]; omega)]
end Go.Proofs.Ytlboioplemlneaa.K
