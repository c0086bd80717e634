/- The document's bits of a number. -/
import Derived.Test.YtlboioplemlneaaPBitsC
set_option maxRecDepth 100000
set_option maxHeartbeats 2000000
set_option linter.unusedVariables false
set_option linter.unusedSimpArgs false
namespace Go.Proofs.Ytlboioplemlneaa.K
open Go Go.Proofs
section
variable {H : Heap}
/-- a number's lowest bits, the lowest one first -/
def bitsN (v n : Nat) : List Int := (List.range n).map fun i => ((v / 2 ^ i % 2 : Nat) : Int)
theorem bitsN_succ (v n : Nat) : bitsN v (n + 1) = bitsN v n ++ [((v / 2 ^ n % 2 : Nat) : Int)] := by simp [bitsN, List.range_succ]
theorem bitsN_len (v n : Nat) : (bitsN v n).length = n := by simp [bitsN]
def ivs (l : List Int) : List Value := l.map fun x => .int .i64 x
structure OfI (H0 : Heap) (v n : Nat) (d : Nat) (e : Nat → Value) (H : Heap) (i : Nat) : Prop where
  h1 : i ≤ n
  h2 : d = n - i
  hk : Kp H0.next H0 H
  hA : Acc 3 1 H0.next H.next H (e 5) i (ivs (bitsN v i))
  e0 : e 0 = .int .u32 (v : Int)
  e1 : e 1 = .int .i64 (n : Int)
  e6 : e 6 = .int .i64 (i : Int)
theorem Of_t (v n : Nat) (hv : v < 4294967296) (hn : n ≤ 32) : Wf S 109 [.int .u32 v, .int .i64 n] H fun r H' => Kp H.next H H' ∧ Acc 3 1 H.next H'.next H' r n (ivs (bitsN v n)) := by
  refine w109 rfl rfl _ _ ?_
  simp [s109]
  refine l109_0 S (fun d e H' => ∃ i, OfI H v n d e H' i) n ⟨0, by omega, by omega, Kp.refl _ _, by simpa [bitsN, ivs] using Acc.nil, by simp, by simp, by simp⟩ ?_
  rintro d e H' ⟨i, hi, rfl, hk, hA, e0, e1, e6⟩
  by_cases h3 : i < n
  · obtain ⟨D, hD⟩ : ∃ D, D = v / 2 ^ i := ⟨_, rfl⟩
    obtain ⟨B, hB⟩ : ∃ B, B = D % 2 := ⟨_, rfl⟩
    have hDv : D ≤ v := by rw [hD]; exact Nat.div_le_self _ _
    have hib : min i IntKind.u32.bits = i := by
      have : IntKind.u32.bits = 32 := rfl
      omega
    have o1 : kBin .shr (.int .u32 (v : Int)) (.int .i64 (i : Int)) = some (.int .u32 (D : Int)) := by
      rw [kb_shr, if_neg (by omega), Int.toNat_natCast, hib, Int.fdiv_eq_ediv_of_nonneg _ (by exact_mod_cast Nat.zero_le (2 ^ i)), hD]
      congr 2
    have w1 : IntKind.i64.wrap (D : Int) = D := wi (by omega) (by omega)
    have w2 : IntKind.i64.wrap ((i : Int) + 1) = (i : Int) + 1 := wi (by omega) (by omega)
    have w3 : IntKind.i64.wrap (B : Int) = (B : Int) := wi (by omega) (by omega)
    have hm : (D : Int).tmod 2 = (B : Int) := by rw [hB]; rw [Int.tmod_eq_emod_of_nonneg (by omega)]; omega
    obtain ⟨v2, H2, hap, hA2, hn2, hk2⟩ := hA.app (bytes := 8) (new := [.int .i64 (B : Int)]) hk.1 (Nat.le_refl _) rfl (by unfold roomMax; omega)
    simp [s109_0, e0, e1, e6, h3, o1, w1, w2, w3, hm, kFill, evPs, isTup, cellsL, wr, kRow, rd, hap]
    refine ⟨n - (i + 1), by omega, i + 1, by omega, rfl, ⟨by have := hk.1; omega, fun k hk' => (hk2 k (by have := hk.1; omega) (.inl hk')).trans (hk.2 k hk')⟩, ?_, by simp [e0], by simp [e1], by simp⟩
    rw [bitsN_succ, ← hD, ← hB]
    simpa [ivs] using hA2
  · have h5 : i = n := by omega
    subst h5
    simp [s109_0, e1, e6]
    exact ⟨hk, hA⟩
end
end Go.Proofs.Ytlboioplemlneaa.K
