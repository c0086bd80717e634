/- Numbers in groups, plainly: what is written, and what is read of bytes. -/
import Derived.Test.YtlboioplemlneaaKBits
set_option maxRecDepth 100000
set_option maxHeartbeats 2000000
set_option linter.unusedVariables false
namespace Go.Proofs.Ytlboioplemlneaa.K
open Go
/-- a number in groups -/
def grp (v : Nat) : Bytes := if v < 128 then [UInt8.ofNat v] else UInt8.ofNat (v % 128 + 128) :: grp (v / 128)
termination_by v
decreasing_by omega
theorem grp_low {v : Nat} (h : v < 128) : grp v = [UInt8.ofNat v] := by rw [grp, if_pos h]
theorem grp_high {v : Nat} (h : ¬ v < 128) : grp v = UInt8.ofNat (v % 128 + 128) :: grp (v / 128) := by rw [grp, if_neg h]
/-- the number in groups at the beginning, from its byte i on, and what stands behind -/
def pG : Nat → Bytes → Option (Nat × Bytes)
  | _, [] => none
  | i, b :: t => if (i = 9 ∧ 1 < b.toNat) ∨ (0 < i ∧ b.toNat = 0) then none
    else if b.toNat < 128 then some (b.toNat, t) else (pG (i + 1) t).map fun p => (b.toNat % 128 + 128 * p.1, p.2)
theorem pow128 (n : Nat) : 0 < 128 ^ n := Nat.pow_pos (by omega)
/-- what is read is what was written -/
theorem pG_grp : ∀ (s : Bytes) (i v : Nat) (t : Bytes), pG i s = some (v, t) → s = grp v ++ t ∧ (0 < i → 0 < v)
  | [], i, v, t, h => by simp [pG] at h
  | b :: s, i, v, t, h => by
    have hb := b.toNat_lt
    simp only [pG] at h
    split at h
    · cases h
    · rename_i hc
      split at h
      · rename_i hl
        simp only [Option.some.injEq, Prod.mk.injEq] at h
        obtain ⟨rfl, rfl⟩ := h
        refine ⟨?_, fun hi => by omega⟩
        rw [grp_low hl]; simp
      · rename_i hl
        simp only [Option.map_eq_some_iff, Prod.mk.injEq] at h
        obtain ⟨⟨w, r⟩, h1, h2, h3⟩ := h
        obtain ⟨q1, q2⟩ := pG_grp s (i + 1) w r h1
        have := q2 (by omega)
        subst h2; subst h3
        refine ⟨?_, fun _ => by omega⟩
        have e1 : (b.toNat % 128 + 128 * w) / 128 = w := by omega
        have e2 : (b.toNat % 128 + 128 * w) % 128 + 128 = b.toNat := by omega
        rw [grp_high (by omega), e1, e2, List.cons_append, ← q1]; simp
/-- what was written is read -/
theorem grp_pG : ∀ (v i : Nat) (t : Bytes), i ≤ 9 → v * 128 ^ i < 2 ^ 64 → (0 < i → 0 < v) → pG i (grp v ++ t) = some (v, t) := by
  intro v
  induction v using Nat.strongRecOn with
  | _ v ih =>
    intro i t hi hv hp
    have hpw := pow128 i
    have h9 : i = 9 → v < 2 := by
      intro e; subst e
      have e1 : (128 : Nat) ^ 9 = 9223372036854775808 := by decide
      have e2 : (2 : Nat) ^ 64 = 18446744073709551616 := by decide
      rw [e1, e2] at hv; omega
    by_cases h : v < 128
    · have hn : (UInt8.ofNat v).toNat = v := by simp; omega
      rw [grp_low h]
      simp only [List.cons_append, List.nil_append, pG, hn]
      rw [if_neg (by omega), if_pos h]
    · have hn : (UInt8.ofNat (v % 128 + 128)).toNat = v % 128 + 128 := by simp; omega
      rw [grp_high h]
      simp only [List.cons_append, pG, hn]
      have hi9 : i ≠ 9 := fun e => by have := h9 e; omega
      rw [if_neg (by omega), if_neg (by omega)]
      have hle : v / 128 * 128 ^ (i + 1) ≤ v * 128 ^ i := by
        rw [Nat.pow_succ, ← Nat.mul_assoc, Nat.mul_right_comm]
        exact Nat.mul_le_mul_right _ (Nat.div_mul_le_self v 128)
      rw [ih (v / 128) (by omega) (i + 1) t (by omega) (by omega) (by omega)]
      simp only [Option.map_some, Option.some.injEq, Prod.mk.injEq, and_true]
      omega
theorem grp_len_pos (v : Nat) : 0 < (grp v).length := by
  by_cases h : v < 128
  · rw [grp_low h]; simp
  · rw [grp_high h]; simp
theorem grp_len : ∀ (k v : Nat), v < 128 ^ k → 0 < k → (grp v).length ≤ k
  | 0, v, h, h0 => by omega
  | k + 1, v, h, _ => by
    by_cases hv : v < 128
    · rw [grp_low hv]; simp
    · rw [grp_high hv, List.length_cons]
      have : v / 128 < 128 ^ k := by
        rw [Nat.div_lt_iff_lt_mul (by omega), ← Nat.pow_succ]; exact h
      have hk : 0 < k := by
        rcases Nat.eq_zero_or_pos k with h0 | h0
        · subst h0; simp at this; omega
        · exact h0
      have := grp_len k (v / 128) this hk
      omega
theorem grp_len10 {v : Nat} (h : v < 2 ^ 64) : (grp v).length ≤ 10 := grp_len 10 v (by
  have : (2 : Nat) ^ 64 ≤ 128 ^ 10 := by decide
  omega) (by omega)
theorem pG_lt {s : Bytes} {i v : Nat} {t : Bytes} : pG i s = some (v, t) → i ≤ 9 → v * 128 ^ i < 2 ^ 64 := by
  induction s generalizing i v t with
  | nil => intro h; simp [pG] at h
  | cons b s ih =>
    intro h hi
    have hb := b.toNat_lt
    simp only [pG] at h
    split at h
    · cases h
    · rename_i hc
      split at h
      · rename_i hl
        simp only [Option.some.injEq, Prod.mk.injEq] at h
        obtain ⟨rfl, rfl⟩ := h
        have hd : ∀ j : Nat, j ≤ 9 → ∀ c, (j = 9 → c ≤ 1) → c < 128 → c * 128 ^ j < 2 ^ 64 := by
          intro j hj c h1 h2
          by_cases e : j = 9
          · subst e
            have : c ≤ 1 := h1 rfl
            have e1 : (128 : Nat) ^ 9 = 9223372036854775808 := by decide
            have e2 : (2 : Nat) ^ 64 = 18446744073709551616 := by decide
            rw [e1, e2]; omega
          · have h3 : 128 ^ j ≤ 128 ^ 8 := Nat.pow_le_pow_right (by omega) (by omega)
            have e1 : (128 : Nat) ^ 8 = 72057594037927936 := by decide
            have e2 : (2 : Nat) ^ 64 = 18446744073709551616 := by decide
            have h4 : c * 128 ^ j ≤ 127 * 128 ^ 8 := Nat.mul_le_mul (by omega) h3
            rw [e1] at h4
            rw [e2]; omega
        exact hd i hi _ (fun e => by omega) hl
      · rename_i hl
        simp only [Option.map_eq_some_iff, Prod.mk.injEq] at h
        obtain ⟨⟨w, r⟩, h1, h2, h3⟩ := h
        have hi9 : i ≠ 9 := fun e => hc (.inl ⟨e, by omega⟩)
        have := ih h1 (by omega)
        subst h2
        rw [Nat.pow_succ] at this
        have e2 : (2 : Nat) ^ 64 = 128 ^ i * (2 ^ (64 - 7 * i)) := by
          rw [show (128 : Nat) = 2 ^ 7 from by decide, ← Nat.pow_mul, ← Nat.pow_add]; congr 1; omega
        have e3 : (2 : Nat) ^ (64 - 7 * i) = 128 * 2 ^ (57 - 7 * i) := by
          rw [show (128 : Nat) = 2 ^ 7 from by decide, ← Nat.pow_add]; congr 1; omega
        have hpw := pow128 i
        rw [e2, e3] at this ⊢
        have h4 : w < 2 ^ (57 - 7 * i) := by
          have h5 : (w * 128) * 128 ^ i < (2 ^ (57 - 7 * i) * 128) * 128 ^ i := by
            rw [Nat.mul_assoc, Nat.mul_comm 128 (128 ^ i), Nat.mul_comm (2 ^ (57 - 7 * i)) 128, Nat.mul_comm (128 * 2 ^ (57 - 7 * i))]; exact this
          have := Nat.lt_of_mul_lt_mul_right h5
          omega
        rw [Nat.mul_comm]
        exact Nat.mul_lt_mul_of_pos_left (by omega) hpw
theorem pG_len {s : Bytes} {i v : Nat} {t : Bytes} (h : pG i s = some (v, t)) : t.length < s.length := by
  have := (pG_grp s i v t h).1
  have h2 := grp_len_pos v
  rw [this, List.length_append]; omega
end Go.Proofs.Ytlboioplemlneaa.K
