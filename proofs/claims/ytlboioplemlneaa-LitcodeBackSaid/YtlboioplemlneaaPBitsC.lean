/- A new reader of bits; a code's bits turned round. -/
import Derived.Test.YtlboioplemlneaaPBitsB
set_option maxRecDepth 100000
set_option maxHeartbeats 2000000
set_option linter.unusedVariables false
set_option linter.unusedSimpArgs false
namespace Go.Proofs.Ytlboioplemlneaa.K
open Go Go.Proofs
section
variable {H : Heap} {s : Bytes}
theorem NewReader_t {a : Option Addr} {c : Nat} (hr : kRow H 5 1 s.length a = some (bvs s)) (hs : s.length ≤ 1000000) :
    Wf S 63 [.slice a s.length c] H fun v H' => ∃ sv b, v = .pointer (some ⟨b, 0, none⟩) ∧ H.next ≤ b ∧ b < H'.next ∧ H'.get b = BrB sv 0 ∧ By H' b sv s ∧ Kp H.next H H' := by
  refine w63 rfl rfl _ ?_
  have hrm : s.length ≤ roomMax := by unfold roomMax; omega
  by_cases h0 : s.length = 0
  · have hs0 : s = [] := List.eq_nil_of_length_eq_zero h0
    subst hs0
    simp at hr
    simp [s63, hr, kApp, kFill, evPs, isTup, cellsL, wr]
    refine ⟨.slice none 0 0, rfl, ⟨none, 0, rfl, fun h => by simp at h⟩, by simp, fun k hk => get_old hk⟩
  · simp [s63, hr, kApp, h0, hrm, kFill, evPs, isTup, cellsL, wr]
    refine ⟨.slice (some ⟨H.next, 0, none⟩) s.length capx, rfl, ⟨some ⟨H.next, 0, none⟩, capx, rfl, fun h => ⟨H.next, rfl, by omega, ?_⟩⟩, by simp; omega, fun k hk => ?_⟩
    · rw [get_old (by simp)]; simp
    · rw [get_old (by simp; omega), get_old hk]
/-- a number's lowest bits, the other way round -/
def turnN (c : Nat) : Nat → Nat
  | 0 => 0
  | n + 1 => 2 * turnN c n + c / 2 ^ n % 2
theorem turnN_lt (c : Nat) : ∀ n, turnN c n < 2 ^ n
  | 0 => by simp [turnN]
  | n + 1 => by have := turnN_lt c n; have := Nat.mod_lt (c / 2 ^ n) (by omega : 0 < 2); simp only [turnN, Nat.pow_succ]; omega
theorem turned_t (c n : Nat) (hc : c < 1000000) (hn : n ≤ 20) : Wf S 72 [.int .i64 c, .int .i64 n] H fun v H' => H' = H ∧ v = .int .u32 (turnN c n : Nat) := by
  refine w72 rfl rfl _ _ ?_
  simp [s72]
  refine l72_0 S (fun d e H' => ∃ i : Nat, i ≤ n ∧ d = n - i ∧ H' = H ∧ e 0 = .int .i64 ((c / 2 ^ i : Nat) : Int) ∧ e 5 = .int .u32 (turnN c i : Nat) ∧ e 6 = .int .i64 n ∧ e 7 = .int .i64 i) n ⟨0, by omega, by omega, rfl, by simp, by simp [turnN], by simp, by simp⟩ ?_
  rintro d e H' ⟨i, hi, rfl, rfl, e0, e5, e6, e7⟩
  by_cases h3 : i < n
  · have ht := turnN_lt c i
    have p20 : 2 ^ i ≤ 2 ^ 20 := Nat.pow_le_pow_right (by omega) (by omega)
    have e20 : (2 : Nat) ^ 20 = 1048576 := by decide
    have hle : c / 2 ^ i ≤ c := Nat.div_le_self _ _
    have hsucc : c / 2 ^ (i + 1) = c / 2 ^ i / 2 := by rw [Nat.pow_succ, Nat.div_div_eq_div_mul]
    have hts : turnN c (i + 1) = 2 * turnN c i + c / 2 ^ i % 2 := rfl
    obtain ⟨T, hT⟩ : ∃ T, T = turnN c i := ⟨_, rfl⟩
    obtain ⟨D, hD⟩ : ∃ D, D = c / 2 ^ i := ⟨_, rfl⟩
    obtain ⟨B, hB⟩ : ∃ B, B = D % 2 := ⟨_, rfl⟩
    obtain ⟨E, hE⟩ : ∃ E, E = D / 2 := ⟨_, rfl⟩
    obtain ⟨U, hU⟩ : ∃ U, U = 2 * T := ⟨_, rfl⟩
    obtain ⟨V, hV⟩ : ∃ V, V = U + B := ⟨_, rfl⟩
    rw [← hT] at ht e5 hts
    rw [← hD] at e0 hle hsucc hts
    rw [← hB, ← hU, ← hV] at hts
    rw [← hE] at hsucc
    have o1 : kBin .shl (.int .u32 (T : Int)) (.int .u64 1) = some (.int .u32 (U : Int)) := by
      rw [kb_shl, if_neg (by omega)]
      have hm : min (1 : Int).toNat IntKind.u32.bits = 1 := by decide
      rw [hm, wu32 (by omega) (by omega)]
      congr 2; omega
    have o2 : kBin .and (.int .i64 (D : Int)) (.int .i64 1) = some (.int .i64 (B : Int)) := by
      have h := kb_andN (k := .i64) (a := D) (b := 1) (by show D < 2 ^ 64; omega) (by decide)
      have e : D &&& 1 = B := by rw [hB]; exact and_low D 1
      rw [e, wi (by omega) (by omega)] at h
      exact h
    have o3 : kBin .or (.int .u32 (U : Int)) (.int .u32 (B : Int)) = some (.int .u32 (V : Int)) := by
      have hor := or_high (v := B) (g := 1) (p := T) (by omega)
      rw [kb_orN (by show _ < 2 ^ 32; omega) (by show _ < 2 ^ 32; omega), Nat.or_comm, show U = T * 2 ^ 1 from by omega, hor, wu32 (by omega) (by omega)]
      congr 3; omega
    have o4 : kBin .shr (.int .i64 (D : Int)) (.int .u64 1) = some (.int .i64 (E : Int)) := by
      rw [kb_shr, if_neg (by omega)]
      have hm : min (1 : Int).toNat IntKind.i64.bits = 1 := by decide
      rw [hm, Int.fdiv_eq_ediv_of_nonneg _ (by decide)]
      congr 2; omega
    have w1 : IntKind.u32.wrap (B : Int) = B := wu32 (by omega) (by omega)
    have w2 : IntKind.i64.wrap ((i : Int) + 1) = (i : Int) + 1 := wi (by omega) (by omega)
    simp [s72_0, e0, e5, e6, e7, h3, o1, o2, o3, o4, w1, w2]
    refine ⟨n - (i + 1), by omega, i + 1, by omega, rfl, by exact_mod_cast hsucc.symm, by rw [hts], by simp⟩
  · have h5 : i = n := by omega
    subst h5
    simp [s72_0, e5, e6, e7]
end
end Go.Proofs.Ytlboioplemlneaa.K
