/- A number in groups at the beginning of a text, as the document reads it. -/
import Derived.Test.YtlboioplemlneaaPCurC
set_option maxRecDepth 100000
set_option maxHeartbeats 2000000
set_option linter.unusedVariables false
set_option linter.unusedSimpArgs false
namespace Go.Proofs.Ytlboioplemlneaa.K
open Go Go.Proofs
def by0 (s : Bytes) (i : Nat) : Nat := (s.getD i 0).toNat
theorem by0_lt (s : Bytes) (i : Nat) : by0 s i < 256 := (s.getD i 0).toNat_lt
theorem drop_by {s : Bytes} {i : Nat} (h : i < s.length) : ∃ b, s.drop i = b :: s.drop (i + 1) ∧ b.toNat = by0 s i ∧ s[i]? = some b := by
  refine ⟨s[i], List.drop_eq_getElem_cons h, ?_, List.getElem?_eq_getElem h⟩
  unfold by0; rw [List.getD_eq_getElem?_getD, List.getElem?_eq_getElem h]; rfl
/-- the number that bytes i to n hold -/
def bvN (s : Bytes) (n : Nat) : Nat → Nat → Nat
  | 0, _ => 0
  | k + 1, i => by0 s i % 128 + 128 * bvN s n k (i + 1)
theorem bvN_lt (s : Bytes) (n : Nat) : ∀ k i, bvN s n k i < 128 ^ k
  | 0, i => by simp [bvN]
  | k + 1, i => by have := bvN_lt s n k (i + 1); simp only [bvN, Nat.pow_succ]; omega
theorem bvN_last (s : Bytes) (n : Nat) : ∀ k i, by0 s (i + k) % 128 * 128 ^ k ≤ bvN s n (k + 1) i
  | 0, i => by simp [bvN]
  | k + 1, i => by
    have := bvN_last s n k (i + 1)
    have e : i + 1 + k = i + (k + 1) := by omega
    rw [e] at this
    have e2 : by0 s (i + (k + 1)) % 128 * 128 ^ (k + 1) = 128 * (by0 s (i + (k + 1)) % 128 * 128 ^ k) := by
      rw [Nat.pow_succ, ← Nat.mul_assoc, Nat.mul_comm]
    rw [e2]
    show 128 * _ ≤ by0 s i % 128 + 128 * bvN s n (k + 1) (i + 1)
    have := Nat.mul_le_mul_left 128 this
    omega
theorem bvN_one (s : Bytes) (n : Nat) : ∀ k i, by0 s (i + k) ≤ 1 → bvN s n (k + 1) i < 2 * 128 ^ k
  | 0, i, h => by simp only [Nat.add_zero] at h; simp only [bvN, Nat.pow_zero]; omega
  | k + 1, i, h => by
    have e : i + 1 + k = i + (k + 1) := by omega
    have := bvN_one s n k (i + 1) (by rw [e]; exact h)
    show by0 s i % 128 + 128 * bvN s n (k + 1) (i + 1) < _
    rw [Nat.pow_succ]; omega
theorem pG_none {s : Bytes} {n : Nat} (hb : ∀ j, j < n → 128 ≤ by0 s j) (h : n = s.length ∨ 9 < n) (hn : n ≤ s.length) : ∀ k i, i + k = min n 9 → pG i (s.drop i) = none
  | 0, i, h0 => by
    rcases Nat.lt_or_ge 9 n with h9 | h9
    · have hi : i = 9 := by omega
      subst hi
      obtain ⟨b, h1, h2, _⟩ := drop_by (s := s) (i := 9) (by omega)
      have := hb 9 h9
      rw [h1]
      have h3 : 1 < b.toNat := by omega
      simp only [pG]
      rw [if_pos (.inl ⟨trivial, h3⟩)]
    · have hi : i = s.length := by omega
      rw [hi, List.drop_length]; rfl
  | k + 1, i, h0 => by
    obtain ⟨b, h1, h2, _⟩ := drop_by (s := s) (i := i) (by omega)
    have := hb i (by omega)
    have ih := pG_none hb h hn k (i + 1) (by omega)
    rw [h1]
    simp only [pG, ih, Option.map_none]
    split
    · rfl
    · split
      · omega
      · rfl
theorem pG_some {s : Bytes} {n : Nat} (hb : ∀ j, j < n → 128 ≤ by0 s j) (hn : n < s.length) (hl : by0 s n < 128) (h9 : n ≤ 9) : ∀ k i, i + k = n →
    pG i (s.drop i) = if (n = 9 ∧ 1 < by0 s n) ∨ (0 < n ∧ by0 s n = 0) then none else some (bvN s n (k + 1) i, s.drop (n + 1))
  | 0, i, h0 => by
    have hi : i = n := by omega
    subst hi
    obtain ⟨b, h1, h2, _⟩ := drop_by hn
    rw [h1]
    simp only [pG, h2, bvN]
    split
    · rfl
    · have : by0 s i % 128 = by0 s i := Nat.mod_eq_of_lt hl
      simp [hl, this]
  | k + 1, i, h0 => by
    obtain ⟨b, h1, h2, _⟩ := drop_by (s := s) (i := i) (by omega)
    have h3 := hb i (by omega)
    have ih := pG_some hb hn hl h9 k (i + 1) (by omega)
    rw [h1]
    simp only [pG, h2, ih]
    rw [if_neg (by omega), if_neg (by omega)]
    split
    · rfl
    · simp only [Option.map_some, bvN]
structure F1 (s : Bytes) (d : Nat) (e : Fe) (H0 H : Heap) (i : Nat) : Prop where
  h1 : i ≤ s.length
  h2 : d = s.length - i
  hH : H = H0
  b : ∀ j, j < i → 128 ≤ by0 s j
  e0 : e 0 = .string (ofL s)
  e4 : e 4 = .int .i64 i
structure F2 (s : Bytes) (n : Nat) (d : Nat) (e : Fe) (H0 H : Heap) (k : Nat) : Prop where
  h1 : k ≤ n + 1
  h2 : d = n + 1 - k
  hH : H = H0
  v : n = 9 → k = 10 → by0 s 9 ≤ 1
  e0 : e 0 = .string (ofL s)
  e4 : e 4 = .int .i64 n
  e5 : e 5 = .int .u64 ((bvN s n k (n + 1 - k) : Nat) : Int)
  e6 : e 6 = .int .i64 ((n : Int) - k)
def gFirst (s : Bytes) : Value := match pG 0 s with
  | some (v, t) => .tuple #[.int .u64 (v : Int), .int .i64 ((s.length - t.length : Nat) : Int)]
  | none => .tuple #[.int .u64 0, .int .i64 0]
theorem rFirst_t {H : Heap} (s : Bytes) (hs : s.length ≤ 1000000) : Wf S 58 [.string (ofL s)] H fun r H' => Kp H.next H H' ∧ r = gFirst s := by
  refine w58 rfl rfl _ ?_
  simp [s58]
  refine l58_1 S (fun d e H' => ∃ i, F1 s d e H H' i) s.length ⟨0, by omega, by omega, rfl, by omega, by simp, by simp⟩ ?_
  rintro d e H' ⟨i, hi, rfl, rfl, hb, e0, e4⟩
  have w2 : IntKind.i64.wrap ((i : Int) + 1) = (i : Int) + 1 := wi (by omega) (by omega)
  by_cases h3 : i < s.length ∧ 128 ≤ by0 s i
  · obtain ⟨h3, h4⟩ := h3
    obtain ⟨b, q1, q2, q3⟩ := drop_by h3
    have hat := fun K => s_at (S := S) (e := []) (H := H') (K := K) (l := s) (k := .i64) q3
    have h4' : (128 : Int) ≤ b.toNat := by omega
    simp [s58_1, e0, e4, ofL_size, h3, hat, bv, h4', w2]
    exact ⟨s.length - (i + 1), by omega, i + 1, by omega, rfl, rfl, fun j hj => by
      by_cases e : j = i
      · rw [e]; exact h4
      · exact hb j (by omega), by simp [e0], by simp⟩
  · -- the first loop ends here
    have fin : (i = s.length ∨ 9 < i) → pG 0 s = none := fun h => by
      have := pG_none hb h hi (min i 9) 0 (by omega)
      simpa using this
    by_cases h5 : i = s.length
    · have hg : gFirst s = .tuple #[.int .u64 0, .int .i64 0] := by unfold gFirst; rw [fin (.inl h5)]
      subst h5
      simp [s58_1, e0, e4, ofL_size, hg, tup]
      exact Kp.refl _ _
    · have h6 : i < s.length := by omega
      have h7 : by0 s i < 128 := by omega
      obtain ⟨b, q1, q2, q3⟩ := drop_by h6
      have hat := fun K => s_at (S := S) (e := []) (H := H') (K := K) (l := s) (k := .i64) q3
      have h4' : ¬ (128 : Int) ≤ b.toNat := by omega
      have h5' : ¬ (i : Int) = s.length := by omega
      by_cases h8 : 9 < i
      · have hg : gFirst s = .tuple #[.int .u64 0, .int .i64 0] := by unfold gFirst; rw [fin (.inr h8)]
        have h8' : (9 : Int) < i := by omega
        simp [s58_1, e0, e4, ofL_size, h6, hat, bv, h4', h5, h5', h8', hg, tup]
        exact Kp.refl _ _
      · have h8' : ¬ (9 : Int) < i := by omega
        have hps := pG_some hb h6 h7 (by omega) i 0 (by omega)
        rw [List.drop_zero] at hps
        simp [s58_1, e0, e4, ofL_size, h6, hat, bv, h4', h5, h5', h8']
        refine l58_0 S (fun d e' H2 => ∃ k, F2 s i d e' H' H2 k) (i + 1) ⟨0, by omega, by omega, rfl, by omega, by simp [e0], by simp [e4], by simp [bvN], by simp [e4]⟩ ?_
        rintro d e' H2 ⟨k, hk, rfl, rfl, hv, q0, q4, q5, q6⟩
        have hlt := bvN_lt s i k (i + 1 - k)
        by_cases h9 : k < i + 1
        · obtain ⟨j, hj⟩ : ∃ j, j = i - k := ⟨_, rfl⟩
          have hjj : (i : Int) - k = (j : Int) := by omega
          have hij : i + 1 - k = j + 1 := by omega
          rw [hjj] at q6
          rw [hij] at q5 hlt
          obtain ⟨V, hV⟩ : ∃ V, V = bvN s i k (j + 1) := ⟨_, rfl⟩
          rw [← hV] at q5 hlt
          by_cases h10 : 144115188075855871 < V
          · have h10' : (144115188075855871 : Int) < V := by omega
            have hk9 : k = 9 ∧ i = 9 := by
              rcases Nat.lt_or_ge k 9 with h | h
              · have : 128 ^ k ≤ 128 ^ 8 := Nat.pow_le_pow_right (by omega) (by omega)
                have e8 : (128 : Nat) ^ 8 = 72057594037927936 := by decide
                omega
              · omega
            obtain ⟨rfl, rfl⟩ := hk9
            have hj0 : j = 0 := by omega
            subst hj0
            have h2 : 1 < by0 s 9 := by
              rcases Nat.lt_or_ge 1 (by0 s 9) with h | h
              · exact h
              · have := bvN_one s 9 8 1 h
                have e8 : (128 : Nat) ^ 8 = 72057594037927936 := by decide
                rw [e8] at this
                have hV' : V = bvN s 9 (8 + 1) 1 := hV
                omega
            have hg : gFirst s = .tuple #[.int .u64 0, .int .i64 0] := by
              unfold gFirst; rw [hps, if_pos (.inl ⟨rfl, h2⟩)]
            simp [s58_0, q0, q5, q6, h10, h10', hg, tup]
            exact Kp.refl _ _
          · have h10' : ¬ (144115188075855871 : Int) < V := by omega
            obtain ⟨b2, r1, r2, r3⟩ := drop_by (s := s) (i := j) (by omega)
            have hat2 := fun K => s_at (S := S) (e := []) (H := H2) (K := K) (l := s) (k := .i64) r3
            have hb2 := b2.toNat_lt
            obtain ⟨m, hm⟩ : ∃ m, m = b2.toNat % 128 := ⟨_, rfl⟩
            have t1 : (b2.toNat : Int).tmod 128 = (m : Int) := by rw [Int.tmod_eq_emod_of_nonneg (by omega)]; omega
            have w3 : IntKind.u64.wrap (m : Int) = m := wu64 (by omega) (by omega)
            have w4 : IntKind.u64.wrap ((V : Int) * 128) = ((V * 128 : Nat) : Int) := by rw [wu64 (by omega) (by omega)]; omega
            have hbv : bvN s i (k + 1) j = m + 128 * V := by rw [hm, r2, hV]; rfl
            have w5 : IntKind.u64.wrap (((V * 128 : Nat) : Int) + m) = ((bvN s i (k + 1) j : Nat) : Int) := by rw [wu64 (by omega) (by omega)]; omega
            have w6 : IntKind.i64.wrap ((j : Int) - 1) = (j : Int) - 1 := wi (by omega) (by omega)
            obtain ⟨VV, hVV⟩ : ∃ VV, VV = V * 128 := ⟨_, rfl⟩
            rw [← hVV] at w4 w5
            simp [s58_0, q0, q5, q6, h10, h10', hat2, bv, t1, w3, w4, w5, w6]
            refine ⟨i + 1 - (k + 1), by omega, k + 1, by omega, rfl, rfl, fun h9 h10 => ?_, by simp [q0], by simp [q4], ?_, ?_⟩
            · subst h9
              have hk9 : k = 9 := by omega
              subst hk9
              have hj0 : j = 0 := by omega
              subst hj0
              have hla := bvN_last s 9 8 1
              have e8 : (128 : Nat) ^ 8 = 72057594037927936 := by decide
              rw [e8] at hla
              have hV' : V = bvN s 9 (8 + 1) 1 := hV
              have e9 : by0 s (1 + 8) = by0 s 9 := rfl
              rw [e9, Nat.mod_eq_of_lt h7] at hla
              omega
            · have : i + 1 - (k + 1) = j := by omega
              simp [this]
            · have : (j : Int) - 1 = (i : Int) - (k + 1 : Nat) := by omega
              simp [this]
        · have hk1 : k = i + 1 := by omega
          subst hk1
          have hneg : (i : Int) - (i + 1 : Nat) = -1 := by omega
          rw [hneg] at q6
          have h00 : i + 1 - (i + 1) = 0 := by omega
          rw [h00] at q5
          obtain ⟨V, hV⟩ : ∃ V, V = bvN s i (i + 1) 0 := ⟨_, rfl⟩
          rw [← hV] at q5 hps
          have hV64 : V < 18446744073709551616 := by
            rcases Nat.lt_or_ge i 9 with h | h
            · have h1 := bvN_lt s i (i + 1) 0
              have : 128 ^ (i + 1) ≤ 128 ^ 9 := Nat.pow_le_pow_right (by omega) (by omega)
              have e8 : (128 : Nat) ^ 9 = 9223372036854775808 := by decide
              omega
            · have hi9 : i = 9 := by omega
              subst hi9
              have h1 := bvN_one s 9 9 0 (hv rfl rfl)
              have e8 : (128 : Nat) ^ 9 = 9223372036854775808 := by decide
              rw [e8] at h1
              have hV' : V = bvN s 9 (9 + 1) 0 := hV
              omega
          have w7 : IntKind.i64.wrap ((i : Int) + 1) = ((i + 1 : Nat) : Int) := by rw [wi (by omega) (by omega)]; omega
          have hup := fun K => s_upto (S := S) (e := []) (H := H2) (K := K) (l := s) (k := .i64) (b := ((i + 1 : Nat) : Int))
          have hle : (0 : Int) ≤ ((i + 1 : Nat) : Int) ∧ ((i + 1 : Nat) : Int) ≤ s.length := by omega
          obtain ⟨i1, hi1⟩ : ∃ i1, i1 = i + 1 := ⟨_, rfl⟩
          rw [← hi1] at w7 hup hle hps
          simp only [if_pos hle, Int.toNat_natCast] at hup
          simp [s58_0, q0, q4, q5, q6, w7, hup]
          refine (rGroup_t V hV64).mono ?_
          rintro r H3 ⟨hk3, rfl⟩
          by_cases h11 : (i = 9 ∧ 1 < by0 s i) ∨ (0 < i ∧ by0 s i = 0)
          · rw [if_pos h11] at hps
            have hne : ¬ grp V = s.take i1 := fun he => by
              have h12 := grp_pG V 0 (s.drop i1) (by omega) (by simpa using hV64) (by omega)
              rw [he, List.take_append_drop, hps] at h12
              cases h12
            have hg : gFirst s = .tuple #[.int .u64 0, .int .i64 0] := by unfold gFirst; rw [hps]
            simp [s_neq, hne, hg, tup]
            exact hk3
          · rw [if_neg h11] at hps
            have heq : grp V = s.take i1 := by
              have h12 := (pG_grp s 0 V _ hps).1
              have h13 : s.take i1 ++ s.drop i1 = grp V ++ s.drop i1 := by rw [List.take_append_drop]; exact h12
              exact (List.append_cancel_right h13).symm
            have hg : gFirst s = .tuple #[.int .u64 (V : Int), .int .i64 (i1 : Int)] := by
              have : s.length - (s.length - i1) = i1 := by omega
              unfold gFirst; rw [hps]; simp only [List.length_drop, this]
            simp [s_neq, heq, hg, tup, q4, q5, w7]
            exact hk3
end Go.Proofs.Ytlboioplemlneaa.K
