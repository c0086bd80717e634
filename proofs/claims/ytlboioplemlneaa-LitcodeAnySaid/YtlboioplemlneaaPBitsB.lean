/- The reader of codes: which symbol comes next. -/
import Derived.Test.YtlboioplemlneaaPBitsA
set_option maxRecDepth 100000
set_option maxHeartbeats 2000000
set_option linter.unusedVariables false
set_option linter.unusedSimpArgs false
namespace Go.Proofs.Ytlboioplemlneaa.K
open Go Go.Proofs
/-- the bits from a place on, the first one the highest -/
def revB (s : Bytes) (at_ : Nat) : Nat → Nat
  | 0 => 0
  | n + 1 => 2 * revB s at_ n + bitAt s (at_ + n)
theorem revB_lt (s : Bytes) (a : Nat) : ∀ n, revB s a n < 2 ^ n
  | 0 => by simp [revB]
  | n + 1 => by have := revB_lt s a n; have := bitAt_lt s (a + n); simp only [revB, Nat.pow_succ]; omega
theorem numB_one (s : Bytes) (a : Nat) : numB s a 1 = bitAt s a := by simp [numB]
def Hit (F C : Nat → Nat) (s : Bytes) (at_ n : Nat) : Prop := F n ≤ revB s at_ n ∧ revB s at_ n < F n + C n
/-- a reader of codes at x: where a length's codes begin, how many there are, where its symbols stand -/
def Rx (H : Heap) (x b : Nat) (F C St : Nat → Nat) (o : Bytes) : Prop := ∃ cs oa oc, H.get x = .cells cs 137 true ∧ x ≠ b ∧ (∀ n, n ≤ 12 → cs[n]? = some (.int .i64 (F n))) ∧ (∀ n, n ≤ 12 → cs[13 + n]? = some (.int .i64 (C n))) ∧ (∀ n, n ≤ 12 → cs[26 + n]? = some (.int .i64 (St n))) ∧ cs[39]? = some (.slice oa o.length oc) ∧ (0 < o.length → ∃ ob, oa = some ⟨ob, 0, none⟩ ∧ ob ≠ b ∧ H.get ob = .cells (bvs o) 5 true)
theorem Rx.put {H : Heap} {x b : Nat} {F C St : Nat → Nat} {o : Bytes} {y : Blk} (h : Rx H x b F C St o) : Rx (H.put b y) x b F C St o := by
  obtain ⟨cs, oa, oc, h1, h2, h3, h4, h5, h6, h7⟩ := h
  refine ⟨cs, oa, oc, (get_put_ne h2).trans h1, h2, h3, h4, h5, h6, fun hp => ?_⟩
  obtain ⟨ob, q1, q2, q3⟩ := h7 hp
  exact ⟨ob, q1, q2, (get_put_ne q2).trans q3⟩
section
variable {H : Heap} {b x : Nat} {sv : Value} {s o : Bytes} {at_ : Nat} {F C St : Nat → Nat}
structure NextI (H : Heap) (b x : Nat) (sv : Value) (s : Bytes) (at_ : Nat) (F C : Nat → Nat) (d : Nat) (e : Nat → Value) (H' : Heap) (m : Nat) : Prop where
  h1 : m ≤ 11
  h2 : d = 11 - m
  h3 : at_ + m ≤ 8 * s.length
  h4 : H' = H.put b (BrB sv (at_ + m))
  h5 : ∀ i, 1 ≤ i → i ≤ m → ¬ Hit F C s at_ i
  e0 : e 0 = .pointer (some ⟨x, 0, none⟩)
  e1 : e 1 = .pointer (some ⟨b, 0, none⟩)
  e6 : e 6 = .int .i64 (revB s at_ m : Nat)
  e7 : e 7 = .int .i64 ((m + 1 : Nat) : Int)
theorem next_t (hx : Rx H x b F C St o) (hg : H.get b = BrB sv at_) (hb : By H b sv s) (hs : s.length ≤ 1000000) (hat : at_ ≤ 8 * s.length)
    (hF : ∀ n, n ≤ 12 → F n ≤ 100000) (hC : ∀ n, n ≤ 12 → C n ≤ 1000) (hSt : ∀ n, n ≤ 12 → St n + C n ≤ o.length) (ho : o.length ≤ 100000) :
    Wf S 64 [.pointer (some ⟨x, 0, none⟩), .pointer (some ⟨b, 0, none⟩)] H fun v H' =>
      (∃ n, n + 1 ≤ 11 ∧ at_ + (n + 1) ≤ 8 * s.length ∧ (∀ i, 1 ≤ i → i ≤ n → ¬ Hit F C s at_ i) ∧ Hit F C s at_ (n + 1) ∧ v = .tuple #[bv (o.getD (St (n + 1) + (revB s at_ (n + 1) - F (n + 1))) 0), .bool true] ∧ H' = H.put b (BrB sv (at_ + (n + 1)))) ∨
      (v = .tuple #[.int .u8 0, .bool false] ∧ ∃ m, m ≤ 11 ∧ (∀ i, 1 ≤ i → i ≤ m → ¬ Hit F C s at_ i) ∧ (m = 11 ∨ 8 * s.length < at_ + (m + 1)) ∧ H' = H.put b (BrB sv (at_ + m))) := by
  refine w64 rfl rfl _ _ ?_
  simp [s64]
  have hblt : b < H.next := lt_cells hg
  refine l64_0 S (fun d e H' => ∃ m, NextI H b x sv s at_ F C d e H' m) 11 ⟨0, by omega, by omega, by omega, (put_same hg).symm, by omega, by simp, by simp, by simp [revB], by simp⟩ ?_
  rintro d e H' ⟨m, h1, rfl, h3, rfl, h5, e0, e1, e6, e7⟩
  have hr := revB_lt s at_ m
  have p11 : 2 ^ m ≤ 2 ^ 11 := Nat.pow_le_pow_right (by omega) h1
  have e11 : (2 : Nat) ^ 11 = 2048 := by decide
  by_cases h6 : m < 11
  · have h6' : (m : Int) + 1 ≤ 11 := by omega
    simp [s64_0, e0, e1, e6, e7, h6']
    have hg2 : (H.put b (BrB sv (at_ + m))).get b = BrB sv (at_ + m) := get_put_eq hblt
    refine (Take_t hg2 hb.put hs h3 1 (by omega)).mono ?_
    intro v H2 hv
    by_cases hfit : at_ + m + 1 ≤ 8 * s.length
    · rw [if_pos hfit] at hv
      obtain ⟨rfl, rfl⟩ := hv
      rw [put_put, numB_one]
      obtain ⟨bit, hbit⟩ : ∃ bit, bit = bitAt s (at_ + m) := ⟨_, rfl⟩
      obtain ⟨R, hR⟩ : ∃ R, R = revB s at_ m := ⟨_, rfl⟩
      obtain ⟨N, hN⟩ : ∃ N, N = revB s at_ (m + 1) := ⟨_, rfl⟩
      have hNR : N = 2 * R + bit := by rw [hN, hR, hbit]; rfl
      have hb2 : bit < 2 := by rw [hbit]; exact bitAt_lt _ _
      rw [← hR] at hr e6
      rw [← hbit]
      have hput := hx.put (y := BrB sv (at_ + m + 1))
      have e01 : at_ + m + 1 = at_ + (m + 1) := rfl
      obtain ⟨HH, hHH⟩ : ∃ HH, HH = H.put b (BrB sv (at_ + m + 1)) := ⟨_, rfl⟩
      rw [← hHH] at hput ⊢
      obtain ⟨cs, oa, oc, g1, g2, g3, g4, g5, g6, g7⟩ := hput
      have hf1 := g3 (m + 1) (by omega)
      have hc1 := g4 (m + 1) (by omega)
      have hs1 := g5 (m + 1) (by omega)
      have bF := hF (m + 1) (by omega)
      have bC := hC (m + 1) (by omega)
      have bS := hSt (m + 1) (by omega)
      obtain ⟨f, hf⟩ : ∃ f, f = F (m + 1) := ⟨_, rfl⟩
      obtain ⟨c, hc⟩ : ∃ c, c = C (m + 1) := ⟨_, rfl⟩
      obtain ⟨st, hst⟩ : ∃ st, st = St (m + 1) := ⟨_, rfl⟩
      rw [← hf] at hf1 bF
      rw [← hc] at hc1 bC bS
      rw [← hst] at hs1 bS
      have hhit : Hit F C s at_ (m + 1) ↔ f ≤ N ∧ N < f + c := by unfold Hit; rw [← hN, ← hf, ← hc]
      have o1 : kBin .shl (.int .i64 (R : Int)) (.int .u64 1) = some (.int .i64 ((2 * R : Nat) : Int)) := by
        rw [kb_shl, if_neg (by omega)]
        have hm : min (1 : Int).toNat IntKind.i64.bits = 1 := by decide
        rw [hm, wi (by omega) (by omega)]
        congr 2; omega
      have w2 : IntKind.i64.wrap (bit : Int) = bit := wi (by omega) (by omega)
      have o2 : kBin .or (.int .i64 ((2 * R : Nat) : Int)) (.int .i64 (bit : Int)) = some (.int .i64 (N : Int)) := by
        have hor := or_high (v := bit) (g := 1) (p := R) (by omega)
        rw [kb_orN (by show _ < 2 ^ 64; omega) (by show _ < 2 ^ 64; omega), Nat.or_comm, show 2 * R = R * 2 ^ 1 from by omega, hor, wi (by omega) (by omega)]
        congr 3; omega
      have w3 : IntKind.i64.wrap ((N : Int) - f) = (N : Int) - f := wi (by omega) (by omega)
      simp at o1 o2
      have m0 : (0 : Int) ≤ (m : Int) + 1 := by omega
      have m13 : (m : Int) + 1 < 13 := by omega
      have wm : IntKind.i64.wrap ((m : Int) + 1 + 1) = (m : Int) + 1 + 1 := wi (by omega) (by omega)
      have cn : ((m : Int) + 1).toNat = m + 1 := by omega
      by_cases hh : f ≤ N
      · obtain ⟨D, hD⟩ : ∃ D, D = N - f := ⟨_, rfl⟩
        have hDi : (N : Int) - f = (D : Int) := by omega
        have w3 := w3.trans hDi
        by_cases hk : D < c
        · obtain ⟨j, hj⟩ : ∃ j, j = st + D := ⟨_, rfl⟩
          have hjl : j < o.length := by omega
          have w4 : IntKind.i64.wrap ((st : Int) + D) = (j : Int) := by rw [wi (by omega) (by omega)]; omega
          obtain ⟨ob, rfl, q2, q3⟩ := g7 (by omega)
          have hcx : (bvs o)[j]? = some (bv (o.getD j 0)) := by simp [bvs, bv, List.getElem?_eq_getElem hjl]
          simp [e0, e6, e7, m0, m13, cn, o1, o2, w2, w3, w4, g1, addOff, hf1, hc1, hs1, hk, tup, g6, q3, hjl, hcx]
          refine ⟨m, by omega, by omega, h5, hhit.2 ⟨hh, by omega⟩, ?_, hHH⟩
          rw [← hN, ← hf, ← hst, ← hD, ← hj]
          simp [List.getElem?_eq_getElem hjl]
        · simp [e0, e6, e7, m0, m13, cn, o1, o2, w2, w3, g1, addOff, hf1, hc1, hs1, hk, tup]
          refine ⟨11 - (m + 1), by omega, m + 1, by omega, rfl, by omega, hHH, fun i i1 i2 => ?_, by simp [e0], by simp [e1], by simp [← hN], by simp [wm]⟩
          by_cases i3 : i = m + 1
          · subst i3; rw [hhit]; omega
          · exact h5 i i1 (by omega)
      · simp [e0, e6, e7, m0, m13, cn, o1, o2, w2, w3, hh, g1, addOff, hf1, hc1, hs1, tup]
        refine ⟨11 - (m + 1), by omega, m + 1, by omega, rfl, by omega, hHH, fun i i1 i2 => ?_, by simp [e0], by simp [e1], by simp [← hN], by simp [wm]⟩
        by_cases i3 : i = m + 1
        · subst i3; rw [hhit]; omega
        · exact h5 i i1 (by omega)
    · rw [if_neg hfit] at hv
      obtain ⟨rfl, rfl⟩ := hv
      simp [tup]
      exact ⟨m, h1, h5, .inr (by omega), rfl⟩
  · have h7 : m = 11 := by omega
    subst h7
    simp [s64_0, e0, e1, e6, e7, tup]
    exact ⟨11, by omega, h5, .inl rfl, rfl⟩
end
end Go.Proofs.Ytlboioplemlneaa.K
