/- Several parts appended at once; the document's bits of bytes. -/
import Derived.Test.YtlboioplemlneaaPBitsD
set_option maxRecDepth 100000
set_option maxHeartbeats 2000000
set_option linter.unusedVariables false
set_option linter.unusedSimpArgs false
namespace Go.Proofs.Ytlboioplemlneaa.K
open Go Go.Proofs
/-- several parts more, by append -/
theorem Acc.appN {t z N M n m bytes : Nat} {H : Heap} {v : Value} {cs new : List Value} (h : Acc t z N M H v n cs) (hN : N ≤ H.next) (hM : M ≤ H.next) (hm : 0 < m) (hz : new.length = m * z) (hn : (n + m) * bytes ≤ roomMax ∧ n + m ≤ roomMax) :
    ∃ v' H', kApp H t z bytes v m new = some (v', H') ∧ Acc t z N H'.next H' v' (n + m) (cs ++ new) ∧ H.next < H'.next ∧ ∀ k, k < H.next → k < N ∨ M ≤ k → H'.get k = H.get k := by
  have hm0 : ¬ m = 0 := by omega
  rcases h with ⟨rfl, rfl, rfl⟩ | ⟨b, c, h1, h2, rfl, hc, h3, h4⟩
  · have h5 : m * bytes ≤ roomMax ∧ m ≤ roomMax := by simpa using hn
    refine ⟨_, _, by simp [kApp, h5.1, h5.2, hm0]; exact ⟨rfl, rfl⟩, ?_, by simp, fun k hk _ => get_old hk⟩
    refine .inr ⟨H.next, capx, by omega, by simp, by simp, .inl rfl, ?_, by simp [hz]⟩
    simp
  · have hb := lt_cells h3
    have hrd : rd cs 0 (n * z) = some cs := by
      unfold rd; rw [if_pos (by omega), List.drop_zero, List.take_of_length_le (by omega)]
    rcases hc with rfl | rfl
    · refine ⟨_, _, by simp only [kApp, h3, hn, and_self, if_true, hm0, if_false, hrd, Option.map_some]; exact rfl, ?_, ?_, ?_⟩
      · refine .inr ⟨H.next, capx, by omega, by simp [next_put], rfl, .inl rfl, ?_, by simp [h4, hz, Nat.add_mul]⟩
        have := get_last (H := H.put b .dead) (b := .cells (cs ++ new) t true)
        rw [next_put] at this; exact this
      · simp [next_put]
      · intro k hk hkN
        rw [get_old (by rw [next_put]; omega), get_put_ne (by omega)]
    · have hx : ¬ c = capx := by
        have : roomMax < capx := by decide
        omega
      have hx2 : ¬ c + m ≤ c := by omega
      refine ⟨_, _, by simp only [kApp, h3, hn, and_self, if_true, hx, hx2, if_false, hrd, Option.map_some]; exact rfl, ?_, ?_, ?_⟩
      · refine .inr ⟨H.next, capx, by omega, by simp, rfl, .inl rfl, get_last, by simp [h4, hz, Nat.add_mul]⟩
      · simp
      · intro k hk hkN
        rw [get_old hk]
section
variable {H : Heap}
def bitsB (s : Bytes) : List Int := s.flatMap fun x => bitsN x.toNat 8
theorem bitsB_succ {s : Bytes} {i : Nat} {x : UInt8} (h : s[i]? = some x) : bitsB (s.take (i + 1)) = bitsB (s.take i) ++ bitsN x.toNat 8 := by
  have hl : i < s.length := by
    rcases Nat.lt_or_ge i s.length with h' | h'
    · exact h'
    · rw [List.getElem?_eq_none h'] at h; cases h
  rw [List.take_add_one, h]; simp [bitsB]
structure BitI (H0 : Heap) (s : Bytes) (sl : Value) (d : Nat) (e : Nat → Value) (H : Heap) (i : Nat) : Prop where
  h1 : i ≤ s.length
  h2 : d = s.length - i
  hk : Kp H0.next H0 H
  hA : Acc 3 1 H0.next H.next H (e 3) (8 * i) (ivs (bitsB (s.take i)))
  e0 : e 0 = sl
  e4 : e 4 = .int .i64 (i : Int)
theorem Bits_t {s : Bytes} {a : Option Addr} {c : Nat} (ha : 0 < s.length → ∃ bb, a = some ⟨bb, 0, none⟩ ∧ H.get bb = .cells (bvs s) 5 true) (hs : s.length ≤ 1000000) : Wf S 68 [.slice a s.length c] H fun r H' => Kp H.next H H' ∧ Acc 3 1 H.next H'.next H' r (8 * s.length) (ivs (bitsB s)) := by
  refine w68 rfl rfl _ ?_
  simp [s68]
  refine l68_0 S (fun d e H' => ∃ i, BitI H s (.slice a s.length c) d e H' i) s.length ⟨0, by omega, by omega, Kp.refl _ _, by simpa [bitsB, ivs] using Acc.nil, by simp, by simp⟩ ?_
  rintro d e H' ⟨i, hi, rfl, hk, hA, e0, e4⟩
  by_cases h3 : i < s.length
  · obtain ⟨bb, rfl, hgb0⟩ := ha (by omega)
    have hgb := (hk.2 bb (lt_cells hgb0)).trans hgb0
    obtain ⟨x, hx⟩ : ∃ x, s[i]? = some x := ⟨_, List.getElem?_eq_getElem h3⟩
    have hxb := x.toNat_lt
    have hcx : (bvs s)[i]? = some (.int .u8 (x.toNat : Int)) := by simp [bvs, bv, hx]
    have w1 : IntKind.u32.wrap (x.toNat : Int) = x.toNat := wu32 (by omega) (by omega)
    have w2 : IntKind.i64.wrap ((i : Int) + 1) = (i : Int) + 1 := wi (by omega) (by omega)
    simp [s68_0, e0, e4, h3, addOff, hgb, hcx, w1]
    refine (Of_t x.toNat 8 (by omega) (by omega)).mono ?_
    rintro v H1 ⟨hk1, hA1⟩
    have hAk := hA.kp (H' := H1) fun b _ hb => hk1.2 b hb
    obtain ⟨a1, c1, rfl, hrow⟩ := hA1.row
    have hn1 := hk1.1
    have hn0 := hk.1
    obtain ⟨v2, H2, hap, hA2, hn2, hk2⟩ := hAk.appN (m := 8) (bytes := 8) (new := ivs (bitsN x.toNat 8)) (by omega) hn1 (by omega) (by simp [ivs, bitsN_len]) (by unfold roomMax; omega)
    simp [hrow, hap, w2]
    refine ⟨s.length - (i + 1), by omega, i + 1, by omega, rfl, ⟨by omega, fun k hk' => (hk2 k (by omega) (.inl hk')).trans ((hk1.2 k (by omega)).trans (hk.2 k hk'))⟩, ?_, by simp [e0], by simp⟩
    rw [bitsB_succ hx]
    simpa [ivs, Nat.mul_add] using hA2
  · have h5 : i = s.length := by omega
    subst h5
    rw [List.take_length] at hA
    simp [s68_0, e0, e4]
    exact ⟨hk, hA⟩
end
end Go.Proofs.Ytlboioplemlneaa.K
