/- Codes of unlike lengths: no code begins another one, plainly. -/
import Derived.Test.YtlboioplemlneaaPHuffP
set_option maxRecDepth 100000
set_option maxHeartbeats 2000000
set_option linter.unusedVariables false
set_option linter.unusedSimpArgs false
namespace Go.Proofs.Ytlboioplemlneaa.K
open Go
/-- a code, and the one that it would begin with -/
theorem pre_ne {l : List Int} (hall : ∀ k, 0 ≤ at0 l k ∧ at0 l k ≤ 11) {i k : Nat} (hi : i < l.length) (hk : k < l.length) (h1 : 0 < at0 l i) (h2 : 0 < at0 l k) (h3 : at0 l i ≤ at0 l k) (hne : i ≠ k) :
    (codeOf l k).fdiv (p2 (at0 l k - at0 l i).toNat) ≠ codeOf l i := by
  have hp2 := p2_pos (at0 l k - at0 l i).toNat
  rw [Int.fdiv_eq_ediv_of_nonneg _ (by omega)]
  obtain ⟨_, ei⟩ := codeOf_div hi h1 (hall i).2
  obtain ⟨_, ek⟩ := codeOf_div hk h2 (hall k).2
  have hpk := part_pos (at0 l k)
  have hpi := part_pos (at0 l i)
  -- the part of the shorter one is so many parts of the longer one
  have hpart : part (at0 l i) = p2 (at0 l k - at0 l i).toNat * part (at0 l k) := by
    unfold part
    rw [← p2_add]
    congr 1
    have := hall k
    omega
  have hck : 0 ≤ codeOf l k := by
    rcases Int.lt_or_le (codeOf l k) 0 with h | h
    · have := Int.mul_neg_of_neg_of_pos h hpk
      have := ahead_nonneg l (at0 l k) k
      omega
    · exact h
  intro he
  -- between the two
  have hlo : codeOf l i * p2 (at0 l k - at0 l i).toNat ≤ codeOf l k := by rw [← he]; exact Int.ediv_mul_le _ (by omega)
  have hhi : codeOf l k < (codeOf l i + 1) * p2 (at0 l k - at0 l i).toNat := by rw [← he]; exact Int.lt_ediv_add_one_mul_self _ hp2
  have hlo' : ahead l (at0 l i) i ≤ ahead l (at0 l k) k := by
    rw [← ei, ← ek, hpart, ← Int.mul_assoc]
    exact Int.mul_le_mul_of_nonneg_right hlo (by omega)
  have hhi' : ahead l (at0 l k) k < ahead l (at0 l i) i + part (at0 l i) := by
    have := Int.mul_lt_mul_of_pos_right hhi hpk
    rw [ek, Int.mul_assoc, ← hpart, Int.add_mul, ei, Int.one_mul] at this
    exact this
  rcases Int.lt_or_le (at0 l i) (at0 l k) with h | h
  · have := ahead_lt hi h1 (.inl h)
    omega
  · have heq : at0 l i = at0 l k := by omega
    rcases Nat.lt_or_ge i k with hik | hik
    · have := ahead_lt hi h1 (.inr ⟨heq, hik⟩)
      omega
    · have := ahead_lt hk h2 (.inr ⟨heq.symm, by omega⟩)
      omega
theorem code_lt {l : List Int} (hall : ∀ k, 0 ≤ at0 l k ∧ at0 l k ≤ 11) {i : Nat} (hi : i < l.length) (h1 : 0 < at0 l i) (ht : total l ≤ 2048) : 0 ≤ codeOf l i ∧ codeOf l i < p2 (at0 l i).toNat := by
  obtain ⟨_, ei⟩ := codeOf_div hi h1 (hall i).2
  have hpi := part_pos (at0 l i)
  have he := ahead_end hi h1
  have hn := ahead_nonneg l (at0 l i) i
  constructor
  · rcases Int.lt_or_le (codeOf l i) 0 with h | h
    · have := Int.mul_neg_of_neg_of_pos h hpi
      omega
    · exact h
  · rcases Int.lt_or_le (codeOf l i) (p2 (at0 l i).toNat) with h | h
    · exact h
    · have h2 : p2 (at0 l i).toNat * part (at0 l i) ≤ codeOf l i * part (at0 l i) := Int.mul_le_mul_of_nonneg_right h (by omega)
      have h3 : p2 (at0 l i).toNat * part (at0 l i) = 2048 := by
        unfold part
        rw [← p2_add]
        have := hall i
        have : (at0 l i).toNat + (11 - at0 l i).toNat = 11 := by omega
        rw [this]; decide
      omega
end Go.Proofs.Ytlboioplemlneaa.K
