/- The document's bytes of bits. -/
import Derived.Test.YtlboioplemlneaaPBitsM
set_option maxRecDepth 100000
set_option maxHeartbeats 2000000
set_option linter.unusedVariables false
set_option linter.unusedSimpArgs false
namespace Go.Proofs.Ytlboioplemlneaa.K
open Go Go.Proofs
structure BytI (H0 : Heap) (a : Option Addr) (c V n : Nat) (d : Nat) (e : Fe) (H : Heap) (i : Nat) : Prop where
  h1 : i ≤ n
  h2 : d = n - i
  kp : Kp H0.next H0 H
  hA : Acc 5 1 H0.next H.next H (e 3) ((i + 7) / 8) (bvs (packN (V % 2 ^ i) i))
  e0 : e 0 = .slice a n c
  e4 : e 4 = .int .i64 i
section
variable {H : Heap}
theorem mod_succ (V i : Nat) : V % 2 ^ (i + 1) = V % 2 ^ i + (V / 2 ^ i % 2) * 2 ^ i := by
  have := Nat.mod_mul (x := V) (a := 2 ^ i) (b := 2)
  rw [Nat.pow_succ, this, Nat.mul_comm (2 ^ i)]
theorem Bytes_t {a : Option Addr} {c V n : Nat} (hl : Iv H a (bitsN V n)) (hn : n ≤ 1000000) : Wf S 75 [.slice a n c] H fun r H' => Kp H.next H H' ∧ Acc 5 1 H.next H'.next H' r ((n + 7) / 8) (bvs (packN (V % 2 ^ n) n)) := by
  have hbl := bitsN_len V n
  refine w75 rfl rfl _ ?_
  simp [s75]
  refine l75_0 S (fun d e H' => ∃ i, BytI H a c V n d e H' i) n ⟨0, by omega, by omega, Kp.refl _ _, by simpa [packN, bvs] using Acc.nil, by simp, by simp⟩ ?_
  rintro d e H' ⟨i, hi, rfl, hk, hA, e0, e4⟩
  by_cases h3 : i < n
  · obtain ⟨b, o, cs, rw, rfl, hg0, hc⟩ := hl (by omega)
    have hg := (hk.2 b (lt_cells hg0)).trans hg0
    have hx : (bitsN V n)[i]? = some ((V / 2 ^ i % 2 : Nat) : Int) := by simp [bitsN, h3]
    have hcx := hc i _ hx
    obtain ⟨m, hm⟩ : ∃ m, m = V / 2 ^ i % 2 := ⟨_, rfl⟩
    have hm2 : m < 2 ^ 1 := by have := Nat.mod_lt (V / 2 ^ i) (by omega : 0 < 2); omega
    rw [← hm] at hcx
    have hms := mod_succ V i
    rw [← hm] at hms
    obtain ⟨W, hW⟩ : ∃ W, W = V % 2 ^ i := ⟨_, rfl⟩
    rw [← hW] at hms hA
    have hWi : W < 2 ^ i := by rw [hW]; exact Nat.mod_lt _ (Nat.pow_pos (by omega))
    obtain ⟨q, hq⟩ : ∃ q, q = i % 8 := ⟨_, rfl⟩
    have t1 : (i : Int).tmod 8 = (q : Int) := by rw [Int.tmod_eq_emod_of_nonneg (by omega), hq]; omega
    have t2 : (i : Int).tdiv 8 = ((i / 8 : Nat) : Int) := by rw [Int.tdiv_eq_ediv_of_nonneg (by omega)]; omega
    have w1 : IntKind.i64.wrap (((i / 8 : Nat) : Int)) = ((i / 8 : Nat) : Int) := wi (by omega) (by omega)
    have w2 : IntKind.i64.wrap ((i : Int) + 1) = (i : Int) + 1 := wi (by omega) (by omega)
    have hpl := packN_len W i
    -- the bytes ahead of the bit's own, with its byte begun
    obtain ⟨B, hB⟩ : ∃ B : Bytes, B = if q = 0 then packN W i ++ [0] else packN W i := ⟨_, rfl⟩
    have hBl : B.length = i / 8 + 1 := by rw [hB]; split <;> simp [hpl] <;> omega
    obtain ⟨y0, hy0⟩ : ∃ y0, y0 = (if q = 0 then 0 else nby W (i / 8)) := ⟨_, rfl⟩
    have hy0b : y0 < 2 ^ q := by
      rw [hy0]
      split
      · rename_i h; rw [h]; decide
      · have h1 := nby_top hWi
        rw [← hq] at h1
        exact Nat.lt_of_le_of_lt (Nat.mod_le _ _) h1
    have p7 : 2 ^ q ≤ 2 ^ 7 := Nat.pow_le_pow_right (by omega) (by omega)
    have e7 : (2 : Nat) ^ 7 = 128 := by decide
    have hBx : B[i / 8]? = some (UInt8.ofNat y0) := by
      rw [hB, hy0]
      split
      · rename_i h
        have : i / 8 = (packN W i).length := by omega
        rw [this]; simp
      · exact packN_get (by omega)
    have hBn : B.set (i / 8) (UInt8.ofNat (y0 + m * 2 ^ q)) = packN (V % 2 ^ (i + 1)) (i + 1) := by
      rw [hms, hB, hy0]
      split
      · rename_i h
        rw [packN_new hWi hm2 (by omega) (by omega) (by omega), List.set_append_right _ _ (by omega)]
        have : i / 8 - (packN W i).length = 0 := by omega
        rw [this, h]; simp
      · rename_i h
        rw [packN_on hWi hm2 (by omega) (by omega) (by omega), hq]
    have hmq : m * 2 ^ q ≤ 128 := by
      have : m * 2 ^ q ≤ 1 * 2 ^ q := Nat.mul_le_mul_right _ (by omega)
      omega
    have hB0 : m = 0 → B = packN (V % 2 ^ (i + 1)) (i + 1) := fun h0 => by
      rw [← hBn, h0]
      apply List.ext_getElem?
      intro j
      by_cases hj : j = i / 8
      · subst hj; rw [List.getElem?_set_self (by omega), hBx]; simp
      · rw [List.getElem?_set_ne (by omega)]
    have hfin : (i + 1 + 7) / 8 = i / 8 + 1 := by omega
    -- from the byte on that is begun
    have tail : ∀ (H2 : Heap) (v2 : Value), Acc 5 1 H.next H2.next H2 v2 (i / 8 + 1) (bvs B) → m = 1 → ∃ b2 c2 H3, v2 = .slice (some ⟨b2, 0, none⟩) (i / 8 + 1) c2 ∧ H2.get b2 = .cells (bvs B) 5 true ∧ H.next ≤ b2 ∧
        kSt H2 (.pointer (some ⟨b2, i / 8, none⟩)) (.int .u8 ((y0 + m * 2 ^ q : Nat) : Int)) = some H3 ∧ Kp H.next H2 H3 ∧ Acc 5 1 H.next H3.next H3 v2 (i / 8 + 1) (bvs (packN (V % 2 ^ (i + 1)) (i + 1))) := by
      intro H2 v2 A2 _
      obtain ⟨b2, c2, e1, q1, q2, hgb, hst, hA3⟩ := A2.set (i := i / 8) (by omega) (x := .int .u8 ((y0 + m * 2 ^ q : Nat) : Int)) rfl
      refine ⟨b2, c2, _, e1, hgb, q1, hst, Kp.put (by omega), ?_⟩
      rw [next_put, ← hBn]
      have e : bvs (B.set (i / 8) (UInt8.ofNat (y0 + m * 2 ^ q))) = (bvs B).set (i / 8) (.int .u8 ((y0 + m * 2 ^ q : Nat) : Int)) := by
        have : (UInt8.ofNat (y0 + m * 2 ^ q)).toNat = y0 + m * 2 ^ q := by simp; omega
        simp only [bvs, List.map_set, bv, this]
      rw [e]; exact hA3
    have hqb : min q IntKind.u8.bits = q := by
      have : IntKind.u8.bits = 8 := rfl
      omega
    have o1 : kBin .shl (.int .u8 1) (.int .i64 (q : Int)) = some (.int .u8 ((2 ^ q : Nat) : Int)) := by
      rw [kb_shl, if_neg (by omega), Int.toNat_natCast, hqb, Int.one_mul]
      have : ((2 : Int) ^ q) = ((2 ^ q : Nat) : Int) := by exact_mod_cast rfl
      rw [this, wu8 (by omega) (by omega)]
    have o2 : m = 1 → kBin .or (.int .u8 (y0 : Int)) (.int .u8 ((2 ^ q : Nat) : Int)) = some (.int .u8 ((y0 + m * 2 ^ q : Nat) : Int)) := fun h1 => by
      have := kb_orN (k := .u8) (a := y0) (b := 2 ^ q) (by show y0 < 2 ^ 8; omega) (by show 2 ^ q < 2 ^ 8; omega)
      have h2 := or_high (v := y0) (g := q) (p := 1) hy0b
      rw [Nat.one_mul] at h2
      rw [h2, wu8 (by omega) (by omega)] at this
      rw [this, h1, Nat.one_mul]
    obtain ⟨y1, hy1⟩ : ∃ y1, y1 = y0 + m * 2 ^ q := ⟨_, rfl⟩
    rw [← hy1] at tail o2
    obtain ⟨E, hE⟩ : ∃ E, E = 2 ^ q := ⟨_, rfl⟩
    rw [← hE] at o1 o2
    have hcB : (bvs B)[i / 8]? = some (.int .u8 (y0 : Int)) := by
      have : (UInt8.ofNat y0).toNat = y0 := by simp; omega
      simp only [bvs, List.getElem?_map, hBx, Option.map_some, bv, this]
    obtain ⟨j, hj⟩ : ∃ j, j = i / 8 := ⟨_, rfl⟩
    rw [← hj] at t2 w1 hcB tail hfin
    have hj1 : j < j + 1 := by omega
    have hj2 : (j : Int) < j + 1 := by omega
    have w3 : IntKind.i64.wrap (j : Int) = j := w1
    by_cases hq0 : q = 0
    · have t1' : (i : Int).tmod 8 = 0 := by rw [t1, hq0]; rfl
      obtain ⟨v2, H2, hap, hA2, hn2, hk2⟩ := hA.app (bytes := 1) (new := [.int .u8 0]) hk.1 (Nat.le_refl _) rfl (by unfold roomMax; omega)
      have kp2 : Kp H.next H' H2 := ⟨by omega, fun k hk' => hk2 k (by have := hk.1; omega) (.inl hk')⟩
      have g2 : H2.get b = .cells cs 3 rw := (kp2.2 b (lt_cells hg0)).trans hg
      have hA3 : Acc 5 1 H.next H2.next H2 v2 (j + 1) (bvs B) := by
        have e : j + 1 = (i + 7) / 8 + 1 := by omega
        rw [e, hB, if_pos hq0]
        simpa [bvs, bv] using hA2
      by_cases hm1 : m = 1
      · obtain ⟨b2, c2, H3, rfl, r1, r2, r3, r4, r5⟩ := tail H2 v2 hA3 hm1
        have o2 := o2 hm1
        rw [hm1] at hcx
        subst hq0
        have o1' : kBin .shl (.int .u8 1) (.int .i64 0) = some (.int .u8 (E : Int)) := o1
        simp [s75_0, e0, e4, h3, t1', kFill, evPs, isTup, cellsL, wr, kRow, rd, hap, addOff, g2, hcx, t2, w3, r1, hcB, hj1, hj2, o1', o2, r3, w2]
        refine ⟨n - (i + 1), by omega, i + 1, by omega, rfl, hk.trans (kp2.trans r4), ?_, by simp [e0], by simp⟩
        rw [hfin]; simpa using r5
      · have hm0 : m = 0 := by omega
        rw [hm0] at hcx
        simp [s75_0, e0, e4, h3, t1', kFill, evPs, isTup, cellsL, wr, kRow, rd, hap, addOff, g2, hcx, w2]
        refine ⟨n - (i + 1), by omega, i + 1, by omega, rfl, hk.trans kp2, ?_, by simp [e0], by simp⟩
        rw [hfin, ← hB0 hm0]; simpa using hA3
    · have hA3 : Acc 5 1 H.next H'.next H' (e 3) (j + 1) (bvs B) := by
        have e : j + 1 = (i + 7) / 8 := by omega
        rw [e, hB, if_neg hq0]; exact hA
      have t1' : ¬ (i : Int).tmod 8 = 0 := by rw [t1]; omega
      by_cases hm1 : m = 1
      · obtain ⟨b2, c2, H3, e3, r1, r2, r3, r4, r5⟩ := tail H' (e 3) hA3 hm1
        have o2 := o2 hm1
        rw [hm1] at hcx
        simp [s75_0, e0, e3, e4, h3, t1', t1, hq0, kFill, evPs, isTup, cellsL, wr, kRow, rd, addOff, hg, hcx, t2, w3, r1, hcB, hj1, hj2, o1, o2, r3, w2]
        refine ⟨n - (i + 1), by omega, i + 1, by omega, rfl, hk.trans r4, ?_, by simp [e0], by simp⟩
        rw [hfin]; simpa [e3] using r5
      · have hm0 : m = 0 := by omega
        rw [hm0] at hcx
        simp [s75_0, e0, e4, h3, t1', t1, hq0, kFill, evPs, isTup, cellsL, wr, kRow, rd, addOff, hg, hcx, w2]
        refine ⟨n - (i + 1), by omega, i + 1, by omega, rfl, hk, ?_, by simp [e0], by simp⟩
        rw [hfin, ← hB0 hm0]; simpa using hA3
  · have h5 : i = n := by omega
    subst h5
    simp [s75_0, e0, e4]
    exact ⟨hk, hA⟩
end
end Go.Proofs.Ytlboioplemlneaa.K
