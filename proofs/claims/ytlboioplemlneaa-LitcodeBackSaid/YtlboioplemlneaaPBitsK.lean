/- A writer's number, bit by bit. -/
import Derived.Test.YtlboioplemlneaaPBitsI
import Derived.Test.YtlboioplemlneaaPBitsJ
set_option maxRecDepth 100000
set_option maxHeartbeats 2000000
set_option linter.unusedVariables false
namespace Go.Proofs.Ytlboioplemlneaa.K
open Go Go.Proofs
/-- bits put behind others -/
theorem bitsN_put {V n m k : Nat} (hV : V < 2 ^ n) : bitsN (V + m * 2 ^ n) (n + k) = bitsN V n ++ bitsN m k := by
  apply List.ext_getElem?
  intro i
  rcases Nat.lt_or_ge i n with h | h
  · rw [List.getElem?_append_left (by rw [bitsN_len]; exact h)]
    have h2 : i < n + k := by omega
    have e : 2 ^ n = 2 ^ (n - i) * 2 ^ i := by rw [← Nat.pow_add]; congr 1; omega
    have e2 : 2 ^ (n - i) = 2 ^ (n - i - 1) * 2 := by rw [← Nat.pow_succ]; congr 1; omega
    have q : (V + m * 2 ^ n) / 2 ^ i % 2 = V / 2 ^ i % 2 := by
      rw [e, ← Nat.mul_assoc, Nat.add_mul_div_right _ _ (Nat.pow_pos (by omega)), e2, ← Nat.mul_assoc, Nat.add_mul_mod_self_right]
    simp only [bitsN, List.getElem?_map, List.getElem?_range h, List.getElem?_range h2, Option.map_some, q]
  · rw [List.getElem?_append_right (by rw [bitsN_len]; exact h), bitsN_len]
    rcases Nat.lt_or_ge i (n + k) with h2 | h2
    · have h3 : i - n < k := by omega
      have e : 2 ^ i = 2 ^ n * 2 ^ (i - n) := by rw [← Nat.pow_add]; congr 1; omega
      have q : (V + m * 2 ^ n) / 2 ^ i % 2 = m / 2 ^ (i - n) % 2 := by
        rw [e, ← Nat.div_div_eq_div_mul, Nat.add_mul_div_right _ _ (Nat.pow_pos (by omega)), Nat.div_eq_of_lt hV, Nat.zero_add]
      simp only [bitsN, List.getElem?_map, List.getElem?_range h3, List.getElem?_range h2, Option.map_some, q]
    · rw [List.getElem?_eq_none (by rw [bitsN_len]; omega), List.getElem?_eq_none (by rw [bitsN_len]; omega)]
end Go.Proofs.Ytlboioplemlneaa.K
