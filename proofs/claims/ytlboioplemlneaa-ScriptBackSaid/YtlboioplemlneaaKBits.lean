/- Bitwise operations of K on numbers from 0 on, in numbers; bits of bytes. -/
import Derived.Test.YtlboioplemlneaaKStr
set_option linter.unusedVariables false
set_option linter.unusedSimpArgs false
namespace Go.Proofs.Ytlboioplemlneaa.K
open Go
theorem ofInt_nat {w n : Nat} (h : n < 2 ^ w) : (BitVec.ofInt w (n : Int)).toNat = n := by
  rw [BitVec.toNat_ofInt]
  have : ((n : Int) % ((2 ^ w : Nat) : Int)) = n := Int.emod_eq_of_lt (by omega) (by exact_mod_cast h)
  rw [this]; simp
theorem kb_orN {k : IntKind} {a b : Nat} (ha : a < 2 ^ k.bits) (hb : b < 2 ^ k.bits) : kBin .or (.int k a) (.int k b) = some (.int k (k.wrap ((a ||| b : Nat) : Int))) := by
  simp only [kBin, kInt, if_true]
  rw [BitVec.toNat_or, ofInt_nat ha, ofInt_nat hb]
theorem kb_andN {k : IntKind} {a b : Nat} (ha : a < 2 ^ k.bits) (hb : b < 2 ^ k.bits) : kBin .and (.int k a) (.int k b) = some (.int k (k.wrap ((a &&& b : Nat) : Int))) := by
  simp only [kBin, kInt, if_true]
  rw [BitVec.toNat_and, ofInt_nat ha, ofInt_nat hb]
theorem wu32 {x : Int} (h0 : 0 ≤ x) (h1 : x < 4294967296) : IntKind.u32.wrap x = x := by
  simp [IntKind.wrap, IntKind.signed, IntKind.bits]; omega
/-- the lowest bits -/
theorem and_low (x k : Nat) : x &&& (2 ^ k - 1) = x % 2 ^ k := Nat.and_two_pow_sub_one_eq_mod x k
theorem or_high {v g p : Nat} (h : v < 2 ^ g) : v ||| (p * 2 ^ g) = v + p * 2 ^ g := by
  rw [Nat.or_comm, Nat.mul_comm]
  have := Nat.two_pow_add_eq_or_of_lt h p
  omega
/-- bits of bytes: the lowest one of each byte first -/
def bitAt (s : Bytes) (i : Nat) : Nat := (s.getD (i / 8) 0).toNat / 2 ^ (i % 8) % 2
def numB (s : Bytes) (at_ : Nat) : Nat → Nat
  | 0 => 0
  | n + 1 => numB s at_ n + bitAt s (at_ + n) * 2 ^ n
theorem bitAt_lt (s : Bytes) (i : Nat) : bitAt s i < 2 := Nat.mod_lt _ (by omega)
theorem numB_lt (s : Bytes) (a : Nat) : ∀ n, numB s a n < 2 ^ n
  | 0 => by simp [numB]
  | n + 1 => by
    have h1 := numB_lt s a n
    have h2 := bitAt_lt s (a + n)
    have h3 : bitAt s (a + n) * 2 ^ n ≤ 1 * 2 ^ n := Nat.mul_le_mul_right _ (by omega)
    simp only [numB, Nat.pow_succ]; omega
theorem numB_add (s : Bytes) (a n : Nat) : ∀ m, numB s a (n + m) = numB s a n + numB s (a + n) m * 2 ^ n
  | 0 => by simp [numB]
  | m + 1 => by
    have := numB_add s a n m
    rw [← Nat.add_assoc]
    simp only [numB, this]
    rw [Nat.add_mul, Nat.mul_assoc (bitAt s (a + n + m)), ← Nat.pow_add, Nat.add_comm m n]
    have e : a + (n + m) = a + n + m := by omega
    rw [e]; omega
/-- bits of one byte -/
theorem numB_byte (s : Bytes) (a : Nat) : ∀ k, a % 8 + k ≤ 8 → numB s a k = (s.getD (a / 8) 0).toNat / 2 ^ (a % 8) % 2 ^ k
  | 0, _ => by simp [numB, Nat.mod_one]
  | k + 1, h => by
    have ih := numB_byte s a k (by omega)
    have e1 : (a + k) / 8 = a / 8 := by omega
    have e2 : (a + k) % 8 = a % 8 + k := by omega
    simp only [numB, ih, bitAt, e1, e2]
    rw [Nat.pow_add, ← Nat.div_div_eq_div_mul]
    have := Nat.mod_mul (x := (s.getD (a / 8) 0).toNat / 2 ^ (a % 8)) (a := 2 ^ k) (b := 2)
    rw [Nat.pow_succ, this]
    rw [Nat.mul_comm (2 ^ k)]
end Go.Proofs.Ytlboioplemlneaa.K
