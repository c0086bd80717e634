/- Bits, one behind the other: what the program's reader takes. -/
import Derived.Test.YtlboioplemlneaaGreatPA
import Derived.Test.YtlboioplemlneaaGreatKF3
set_option maxRecDepth 100000
set_option maxHeartbeats 2000000
set_option linter.unusedVariables false
set_option linter.unusedSimpArgs false
namespace Go.Proofs.YtlboioplemlneaaGreat.K
open Go Go.Proofs
def BrB (sv : Value) (at_ : Nat) : Blk := .cells [sv, .int .i64 at_] 129 true
/-- bytes that a reader at b holds -/
def By (H : Heap) (b : Nat) (sv : Value) (s : Bytes) : Prop := ∃ a c, sv = .slice a s.length c ∧ (0 < s.length → ∃ bb, a = some ⟨bb, 0, none⟩ ∧ bb ≠ b ∧ H.get bb = .cells (bvs s) 5 true)
theorem By.put {H : Heap} {b : Nat} {sv : Value} {s : Bytes} {x : Blk} (h : By H b sv s) : By (H.put b x) b sv s := by
  obtain ⟨a, c, h1, h2⟩ := h
  refine ⟨a, c, h1, fun hp => ?_⟩
  obtain ⟨bb, q1, q2, q3⟩ := h2 hp
  exact ⟨bb, q1, q2, (get_put_ne q2).trans q3⟩
section
variable {H : Heap} {b : Nat} {sv : Value} {s : Bytes} {at_ : Nat}
theorem bright_t (n : Int) : Wf S 88 [.int .i64 n] H fun v H' => H' = H ∧ v = .bool (decide (0 ≤ n ∧ n ≤ 32)) := by
  refine w88 rfl rfl _ ?_
  by_cases h : 0 ≤ n
  · simp [s88, h]
  · simp [s88, h]
theorem Left_t (hg : H.get b = BrB sv at_) (hb : By H b sv s) (hs : s.length ≤ 1000000) (hat : at_ ≤ 8 * s.length) : Wf S 76 [.pointer (some ⟨b, 0, none⟩)] H fun v H' => H' = H ∧ v = .int .i64 ((8 * s.length - at_ : Nat) : Int) := by
  refine w76 rfl rfl _ ?_
  obtain ⟨a, c, rfl, _⟩ := hb
  have hg' : H.get b = .cells [.slice a s.length c, .int .i64 at_] 129 true := hg
  have h1 : IntKind.i64.wrap (8 * (s.length : Int)) = 8 * s.length := wi (by omega) (by omega)
  have h2 : IntKind.i64.wrap (8 * (s.length : Int) - at_) = ((8 * s.length - at_ : Nat) : Int) := by rw [wi (by omega) (by omega)]; omega
  simp [s76, kEq, addOff, hg', h1, h2]
theorem and7 (x : Nat) (h : x < 9223372036854775808) : kBin .and (.int .i64 x) (.int .i64 7) = some (.int .i64 ((x % 8 : Nat) : Int)) := by
  have := kb_andN (k := .i64) (a := x) (b := 7) (by show x < 2 ^ 64; omega) (by decide)
  have e : x &&& 7 = x % 8 := and_low x 3
  rw [e] at this
  have hw : IntKind.i64.wrap ((x % 8 : Nat) : Int) = ((x % 8 : Nat) : Int) := wi (by omega) (by omega)
  rw [hw] at this
  exact this
theorem Take_t (hg : H.get b = BrB sv at_) (hb : By H b sv s) (hs : s.length ≤ 1000000) (hat : at_ ≤ 8 * s.length) (n : Nat) (hn : n ≤ 32) :
    Wf S 77 [.pointer (some ⟨b, 0, none⟩), .int .i64 n] H fun v H' => if at_ + n ≤ 8 * s.length then v = .tuple #[.int .u32 (numB s at_ n : Nat), .bool true] ∧ H' = H.put b (BrB sv (at_ + n)) else v = .tuple #[.int .u32 0, .bool false] ∧ H' = H := by
  refine w77 rfl rfl _ _ ?_
  have hr1 : decide (0 ≤ (n : Int) ∧ (n : Int) ≤ 32) = true := by rw [decide_eq_true_eq]; omega
  simp [s77, kEq]
  refine (bright_t (n : Int)).mono ?_
  rintro v H1 ⟨rfl, rfl⟩
  rw [hr1]
  simp
  refine (Left_t hg hb hs hat).mono ?_
  rintro v H2 ⟨rfl, rfl⟩
  by_cases hfit : at_ + n ≤ 8 * s.length
  · have hlt : ¬ ((8 * s.length - at_ : Nat) : Int) < n := by omega
    have hlt2 : ¬ (8 * s.length - at_ < n) := by omega
    simp [hlt2, hfit]
    have hblt : b < H2.next := lt_cells hg
    refine l77_0 S (fun d e H' => ∃ g : Nat, g ≤ n ∧ d = n - g ∧ H' = H2.put b (BrB sv (at_ + g)) ∧ e 0 = .pointer (some ⟨b, 0, none⟩) ∧ e 1 = .int .i64 n ∧ e 6 = .int .u32 (numB s at_ g : Nat) ∧ e 7 = .int .i64 g) n ⟨0, by omega, by omega, (put_same hg).symm, by simp, by simp, by simp [numB], by simp⟩ ?_
    rintro d e H' ⟨g, hgn, rfl, rfl, e0, e1, e6, e7⟩
    by_cases h3 : g < n
    · obtain ⟨a, c, rfl, hbb⟩ := hb
      have hsl : 0 < s.length := by omega
      obtain ⟨bb, rfl, hne, hgb⟩ := hbb hsl
      have hgp : (H2.put b (BrB (.slice (some ⟨bb, 0, none⟩) s.length c) (at_ + g))).get b = .cells [.slice (some ⟨bb, 0, none⟩) s.length c, .int .i64 ((at_ + g : Nat) : Int)] 129 true := get_put_eq hblt
      have hgbb : (H2.put b (BrB (.slice (some ⟨bb, 0, none⟩) s.length c) (at_ + g))).get bb = .cells (bvs s) 5 true := (get_put_ne hne).trans hgb
      have hpn : (H2.put b (BrB (.slice (some ⟨bb, 0, none⟩) s.length c) (at_ + g))).next = H2.next := next_put
      generalize hHH : H2.put b (BrB (.slice (some ⟨bb, 0, none⟩) s.length c) (at_ + g)) = HH at *
      obtain ⟨p, hp⟩ : ∃ p, p = at_ + g := ⟨_, rfl⟩
      rw [← hp] at hgp
      obtain ⟨q, hq⟩ : ∃ q, q = p % 8 := ⟨_, rfl⟩
      obtain ⟨k, hk⟩ : ∃ k, k = min (n - g) (8 - q) := ⟨_, rfl⟩
      obtain ⟨x, hx⟩ : ∃ x, s[p / 8]? = some x := ⟨_, List.getElem?_eq_getElem (by omega)⟩
      have hxb := x.toNat_lt
      have hgd : s.getD (p / 8) 0 = x := by rw [List.getD_eq_getElem?_getD, hx]; rfl
      have hcx : (bvs s)[p / 8]? = some (.int .u8 x.toNat) := by simp [bvs, bv, hx]
      have ha7 := and7 p (by omega)
      rw [← hq] at ha7
      have hbyte := numB_byte s p k (by omega)
      rw [hgd, ← hq] at hbyte
      have hnl := numB_lt s at_ g
      have hnk := numB_lt s p k
      have hadd := numB_add s at_ g k
      rw [← hp] at hadd
      have hnkt := numB_lt s at_ (g + k)
      have hk1 : 1 ≤ k := by omega
      have p32 : 2 ^ (g + k) ≤ 2 ^ 32 := Nat.pow_le_pow_right (by omega) (by omega)
      have pg : 2 ^ g ≤ 2 ^ 32 := Nat.pow_le_pow_right (by omega) (by omega)
      have pk8 : 2 ^ k ≤ 2 ^ 8 := Nat.pow_le_pow_right (by omega) (by omega)
      have pk0 : 0 < 2 ^ k := Nat.pow_pos (by omega)
      have e32 : (2 : Nat) ^ 32 = 4294967296 := by decide
      have e8 : (2 : Nat) ^ 8 = 256 := by decide
      have w1 : IntKind.i64.wrap ((n : Int) - g) = (n : Int) - g := wi (by omega) (by omega)
      have w2 : IntKind.i64.wrap (8 - (q : Int)) = 8 - (q : Int) := wi (by omega) (by omega)
      have w3 : min ((n : Int) - g) (8 - (q : Int)) = (k : Int) := by omega
      have o1 : kBin .shr (.int .i64 (p : Int)) (.int .u64 3) = some (.int .i64 ((p / 8 : Nat) : Int)) := by
        rw [kb_shr, if_neg (by omega)]
        have hm : min (3 : Int).toNat IntKind.i64.bits = 3 := by decide
        rw [hm, Int.fdiv_eq_ediv_of_nonneg _ (by decide)]
        congr 2
      have hqb : min q IntKind.u8.bits = q := by
        have : IntKind.u8.bits = 8 := rfl
        omega
      have hdb : x.toNat / 2 ^ q ≤ x.toNat := Nat.div_le_self _ _
      have o2 : kBin .shr (.int .u8 (x.toNat : Int)) (.int .i64 (q : Int)) = some (.int .u8 ((x.toNat / 2 ^ q : Nat) : Int)) := by
        rw [kb_shr, if_neg (by omega), Int.toNat_natCast, hqb, Int.fdiv_eq_ediv_of_nonneg _ (by exact_mod_cast Nat.zero_le (2 ^ q))]
        congr 2
      have w4 : IntKind.u32.wrap ((x.toNat / 2 ^ q : Nat) : Int) = ((x.toNat / 2 ^ q : Nat) : Int) := wu32 (Int.natCast_nonneg _) (by omega)
      have hkb : min k IntKind.u32.bits = k := by
        have : IntKind.u32.bits = 32 := rfl
        omega
      have hgb : min g IntKind.u32.bits = g := by
        have : IntKind.u32.bits = 32 := rfl
        omega
      obtain ⟨P, hP⟩ : ∃ P, P = 2 ^ k := ⟨_, rfl⟩
      have o3 : kBin .shl (.int .u32 1) (.int .i64 (k : Int)) = some (.int .u32 (P : Int)) := by
        rw [kb_shl, if_neg (by omega), Int.toNat_natCast, hkb, Int.one_mul]
        have : ((2 : Int) ^ k) = ((P : Nat) : Int) := by rw [hP]; exact_mod_cast rfl
        rw [this, wu32 (by omega) (by omega)]
      have w5 : IntKind.u32.wrap ((P : Int) - 1) = ((P - 1 : Nat) : Int) := by rw [wu32 (by omega) (by omega)]; omega
      obtain ⟨D, hD⟩ : ∃ D, D = x.toNat / 2 ^ q := ⟨_, rfl⟩
      rw [← hD] at o2 w4 hbyte hdb
      obtain ⟨N, hN⟩ : ∃ N, N = numB s p k := ⟨_, rfl⟩
      have o4 : kBin .and (.int .u32 (D : Int)) (.int .u32 ((P - 1 : Nat) : Int)) = some (.int .u32 (N : Int)) := by
        rw [kb_andN (by show D < 2 ^ 32; omega) (by show P - 1 < 2 ^ 32; omega), hP, and_low, ← hbyte, ← hN, wu32 (by omega) (by omega)]
      have o5 : kBin .shl (.int .u32 (N : Int)) (.int .i64 (g : Int)) = some (.int .u32 ((N * 2 ^ g : Nat) : Int)) := by
        rw [kb_shl, if_neg (by omega), Int.toNat_natCast, hgb]
        have : (N : Int) * 2 ^ g = ((N * 2 ^ g : Nat) : Int) := by exact_mod_cast rfl
        rw [this, wu32 (by omega) (by rw [hN]; omega)]
      obtain ⟨M, hM⟩ : ∃ M, M = N * 2 ^ g := ⟨_, rfl⟩
      rw [← hM] at o5
      have hMt : M = numB s p k * 2 ^ g := by rw [hM, hN]
      rw [← hMt] at hadd
      have o6 : kBin .or (.int .u32 ((numB s at_ g : Nat) : Int)) (.int .u32 (M : Int)) = some (.int .u32 ((numB s at_ (g + k) : Nat) : Int)) := by
        rw [kb_orN (by show _ < 2 ^ 32; omega) (by show _ < 2 ^ 32; omega), hMt, or_high hnl, ← hMt, ← hadd, wu32 (by omega) (by omega)]
      have w6 : IntKind.i64.wrap ((g : Int) + k) = ((g + k : Nat) : Int) := by rw [wi (by omega) (by omega)]; omega
      have w7 : IntKind.i64.wrap ((p : Int) + k) = ((p + k : Nat) : Int) := by rw [wi (by omega) (by omega)]; omega
      have hidx : (p / 8) < s.length := by omega
      have hbl : b < HH.next := by omega
      have hst : kSt HH (.pointer (some ⟨b, 1, none⟩)) (.int .i64 ((p + k : Nat) : Int)) = some (HH.put b (BrB (.slice (some ⟨bb, 0, none⟩) s.length c) (p + k))) := by
        simp only [kSt, hgp]
        rfl
      have hiad : ∀ {K : Kv}, run S (.iad 1 (.c (.slice (some ⟨bb, 0, none⟩) s.length c)) (.c (.int .i64 ((p / 8 : Nat) : Int)))) [] HH K = K (.pointer (some ⟨bb, p / 8, none⟩)) HH := fun {K} => by
        rw [run_iad, if_pos (by omega)]; simp only [addOff, Int.toNat_natCast, Nat.mul_one, Nat.zero_add]
      obtain ⟨j, hj⟩ : ∃ j, j = p / 8 := ⟨_, rfl⟩
      rw [← hj] at o1 hcx hidx
      simp [s77_0, e0, e1, e6, e7, h3, addOff, hgp, hgbb, ha7, w1, w2, w3, w4, w5, w6, w7, o1, o2, o3, o4, o5, o6, hidx, hcx]
      rw [Int.natCast_add] at hst
      rw [hst]
      simp
      refine ⟨n - (g + k), by omega, g + k, by omega, rfl, ?_, rfl, by simp⟩
      rw [← hHH, put_put, hp, Nat.add_assoc]
    · have h5 : g = n := by omega
      subst h5
      simp [s77_0, e1, e6, e7, tup]
  · have hlt : ((8 * s.length - at_ : Nat) : Int) < n := by omega
    have hlt2 : 8 * s.length - at_ < n := by omega
    simp [hlt2, hfit, tup]
end
end Go.Proofs.YtlboioplemlneaaGreat.K
/- The reader of codes: which symbol comes next. -/
set_option maxRecDepth 100000
set_option maxHeartbeats 2000000
set_option linter.unusedVariables false
set_option linter.unusedSimpArgs false
namespace Go.Proofs.YtlboioplemlneaaGreat.K
open Go Go.Proofs
/-- the bits from a place on, the first one the highest -/
def revB (s : Bytes) (at_ : Nat) : Nat → Nat
  | 0 => 0
  | n + 1 => 2 * revB s at_ n + bitAt s (at_ + n)
theorem revB_lt (s : Bytes) (a : Nat) : ∀ n, revB s a n < 2 ^ n
  | 0 => by simp [revB]
  | n + 1 => by have := revB_lt s a n; have := bitAt_lt s (a + n); simp only [revB, Nat.pow_succ]; omega
theorem numB_one (s : Bytes) (a : Nat) : numB s a 1 = bitAt s a := by simp [numB]
def Hit (F C : Nat → Nat) (s : Bytes) (at_ n : Nat) : Prop := F n ≤ revB s at_ n ∧ revB s at_ n < F n + C n
/-- a reader of codes at x: where a length's codes begin, how many there are, where its symbols stand -/
def Rx (H : Heap) (x b : Nat) (F C St : Nat → Nat) (o : Bytes) : Prop := ∃ cs oa oc, H.get x = .cells cs 127 true ∧ x ≠ b ∧ (∀ n, n ≤ 12 → cs[n]? = some (.int .i64 (F n))) ∧ (∀ n, n ≤ 12 → cs[13 + n]? = some (.int .i64 (C n))) ∧ (∀ n, n ≤ 12 → cs[26 + n]? = some (.int .i64 (St n))) ∧ cs[39]? = some (.slice oa o.length oc) ∧ (0 < o.length → ∃ ob, oa = some ⟨ob, 0, none⟩ ∧ ob ≠ b ∧ H.get ob = .cells (bvs o) 5 true)
theorem Rx.put {H : Heap} {x b : Nat} {F C St : Nat → Nat} {o : Bytes} {y : Blk} (h : Rx H x b F C St o) : Rx (H.put b y) x b F C St o := by
  obtain ⟨cs, oa, oc, h1, h2, h3, h4, h5, h6, h7⟩ := h
  refine ⟨cs, oa, oc, (get_put_ne h2).trans h1, h2, h3, h4, h5, h6, fun hp => ?_⟩
  obtain ⟨ob, q1, q2, q3⟩ := h7 hp
  exact ⟨ob, q1, q2, (get_put_ne q2).trans q3⟩
section
variable {H : Heap} {b x : Nat} {sv : Value} {s o : Bytes} {at_ : Nat} {F C St : Nat → Nat}
structure NextI (H : Heap) (b x : Nat) (sv : Value) (s : Bytes) (at_ : Nat) (F C : Nat → Nat) (d : Nat) (e : Nat → Value) (H' : Heap) (m : Nat) : Prop where
  h1 : m ≤ 11
  h2 : d = 11 - m
  h3 : at_ + m ≤ 8 * s.length
  h4 : H' = H.put b (BrB sv (at_ + m))
  h5 : ∀ i, 1 ≤ i → i ≤ m → ¬ Hit F C s at_ i
  e0 : e 0 = .pointer (some ⟨x, 0, none⟩)
  e1 : e 1 = .pointer (some ⟨b, 0, none⟩)
  e6 : e 6 = .int .i64 (revB s at_ m : Nat)
  e7 : e 7 = .int .i64 ((m + 1 : Nat) : Int)
theorem next_t (hx : Rx H x b F C St o) (hg : H.get b = BrB sv at_) (hb : By H b sv s) (hs : s.length ≤ 1000000) (hat : at_ ≤ 8 * s.length)
    (hF : ∀ n, n ≤ 12 → F n ≤ 100000) (hC : ∀ n, n ≤ 12 → C n ≤ 1000) (hSt : ∀ n, n ≤ 12 → St n + C n ≤ o.length) (ho : o.length ≤ 100000) :
    Wf S 75 [.pointer (some ⟨x, 0, none⟩), .pointer (some ⟨b, 0, none⟩)] H fun v H' =>
      (∃ n, n + 1 ≤ 11 ∧ at_ + (n + 1) ≤ 8 * s.length ∧ (∀ i, 1 ≤ i → i ≤ n → ¬ Hit F C s at_ i) ∧ Hit F C s at_ (n + 1) ∧ v = .tuple #[bv (o.getD (St (n + 1) + (revB s at_ (n + 1) - F (n + 1))) 0), .bool true] ∧ H' = H.put b (BrB sv (at_ + (n + 1)))) ∨
      (v = .tuple #[.int .u8 0, .bool false] ∧ ∃ m, m ≤ 11 ∧ (∀ i, 1 ≤ i → i ≤ m → ¬ Hit F C s at_ i) ∧ (m = 11 ∨ 8 * s.length < at_ + (m + 1)) ∧ H' = H.put b (BrB sv (at_ + m))) := by
  refine w75 rfl rfl _ _ ?_
  simp [s75]
  have hblt : b < H.next := lt_cells hg
  refine l75_0 S (fun d e H' => ∃ m, NextI H b x sv s at_ F C d e H' m) 11 ⟨0, by omega, by omega, by omega, (put_same hg).symm, by omega, by simp, by simp, by simp [revB], by simp⟩ ?_
  rintro d e H' ⟨m, h1, rfl, h3, rfl, h5, e0, e1, e6, e7⟩
  have hr := revB_lt s at_ m
  have p11 : 2 ^ m ≤ 2 ^ 11 := Nat.pow_le_pow_right (by omega) h1
  have e11 : (2 : Nat) ^ 11 = 2048 := by decide
  by_cases h6 : m < 11
  · have h6' : (m : Int) + 1 ≤ 11 := by omega
    simp [s75_0, e0, e1, e6, e7, h6']
    have hg2 : (H.put b (BrB sv (at_ + m))).get b = BrB sv (at_ + m) := get_put_eq hblt
    refine (Take_t hg2 hb.put hs h3 1 (by omega)).mono ?_
    intro v H2 hv
    by_cases hfit : at_ + m + 1 ≤ 8 * s.length
    · rw [if_pos hfit] at hv
      obtain ⟨rfl, rfl⟩ := hv
      rw [put_put, numB_one]
      obtain ⟨bit, hbit⟩ : ∃ bit, bit = bitAt s (at_ + m) := ⟨_, rfl⟩
      obtain ⟨R, hR⟩ : ∃ R, R = revB s at_ m := ⟨_, rfl⟩
      obtain ⟨N, hN⟩ : ∃ N, N = revB s at_ (m + 1) := ⟨_, rfl⟩
      have hNR : N = 2 * R + bit := by rw [hN, hR, hbit]; rfl
      have hb2 : bit < 2 := by rw [hbit]; exact bitAt_lt _ _
      rw [← hR] at hr e6
      rw [← hbit]
      have hput := hx.put (y := BrB sv (at_ + m + 1))
      have e01 : at_ + m + 1 = at_ + (m + 1) := rfl
      obtain ⟨HH, hHH⟩ : ∃ HH, HH = H.put b (BrB sv (at_ + m + 1)) := ⟨_, rfl⟩
      rw [← hHH] at hput ⊢
      obtain ⟨cs, oa, oc, g1, g2, g3, g4, g5, g6, g7⟩ := hput
      have hf1 := g3 (m + 1) (by omega)
      have hc1 := g4 (m + 1) (by omega)
      have hs1 := g5 (m + 1) (by omega)
      have bF := hF (m + 1) (by omega)
      have bC := hC (m + 1) (by omega)
      have bS := hSt (m + 1) (by omega)
      obtain ⟨f, hf⟩ : ∃ f, f = F (m + 1) := ⟨_, rfl⟩
      obtain ⟨c, hc⟩ : ∃ c, c = C (m + 1) := ⟨_, rfl⟩
      obtain ⟨st, hst⟩ : ∃ st, st = St (m + 1) := ⟨_, rfl⟩
      rw [← hf] at hf1 bF
      rw [← hc] at hc1 bC bS
      rw [← hst] at hs1 bS
      have hhit : Hit F C s at_ (m + 1) ↔ f ≤ N ∧ N < f + c := by unfold Hit; rw [← hN, ← hf, ← hc]
      have o1 : kBin .shl (.int .i64 (R : Int)) (.int .u64 1) = some (.int .i64 ((2 * R : Nat) : Int)) := by
        rw [kb_shl, if_neg (by omega)]
        have hm : min (1 : Int).toNat IntKind.i64.bits = 1 := by decide
        rw [hm, wi (by omega) (by omega)]
        congr 2; omega
      have w2 : IntKind.i64.wrap (bit : Int) = bit := wi (by omega) (by omega)
      have o2 : kBin .or (.int .i64 ((2 * R : Nat) : Int)) (.int .i64 (bit : Int)) = some (.int .i64 (N : Int)) := by
        have hor := or_high (v := bit) (g := 1) (p := R) (by omega)
        rw [kb_orN (by show _ < 2 ^ 64; omega) (by show _ < 2 ^ 64; omega), Nat.or_comm, show 2 * R = R * 2 ^ 1 from by omega, hor, wi (by omega) (by omega)]
        congr 3; omega
      have w3 : IntKind.i64.wrap ((N : Int) - f) = (N : Int) - f := wi (by omega) (by omega)
      simp at o1 o2
      have m0 : (0 : Int) ≤ (m : Int) + 1 := by omega
      have m13 : (m : Int) + 1 < 13 := by omega
      have wm : IntKind.i64.wrap ((m : Int) + 1 + 1) = (m : Int) + 1 + 1 := wi (by omega) (by omega)
      have cn : ((m : Int) + 1).toNat = m + 1 := by omega
      by_cases hh : f ≤ N
      · obtain ⟨D, hD⟩ : ∃ D, D = N - f := ⟨_, rfl⟩
        have hDi : (N : Int) - f = (D : Int) := by omega
        have w3 := w3.trans hDi
        by_cases hk : D < c
        · obtain ⟨j, hj⟩ : ∃ j, j = st + D := ⟨_, rfl⟩
          have hjl : j < o.length := by omega
          have w4 : IntKind.i64.wrap ((st : Int) + D) = (j : Int) := by rw [wi (by omega) (by omega)]; omega
          obtain ⟨ob, rfl, q2, q3⟩ := g7 (by omega)
          have hcx : (bvs o)[j]? = some (bv (o.getD j 0)) := by simp [bvs, bv, List.getElem?_eq_getElem hjl]
          simp [e0, e6, e7, m0, m13, cn, o1, o2, w2, w3, w4, g1, addOff, hf1, hc1, hs1, hk, tup, g6, q3, hjl, hcx]
          refine ⟨m, by omega, by omega, h5, hhit.2 ⟨hh, by omega⟩, ?_, hHH⟩
          rw [← hN, ← hf, ← hst, ← hD, ← hj]
          simp [List.getElem?_eq_getElem hjl]
        · simp [e0, e6, e7, m0, m13, cn, o1, o2, w2, w3, g1, addOff, hf1, hc1, hs1, hk, tup]
          refine ⟨11 - (m + 1), by omega, m + 1, by omega, rfl, by omega, hHH, fun i i1 i2 => ?_, by simp [e0], by simp [e1], by simp [← hN], by simp [wm]⟩
          by_cases i3 : i = m + 1
          · subst i3; rw [hhit]; omega
          · exact h5 i i1 (by omega)
      · simp [e0, e6, e7, m0, m13, cn, o1, o2, w2, w3, hh, g1, addOff, hf1, hc1, hs1, tup]
        refine ⟨11 - (m + 1), by omega, m + 1, by omega, rfl, by omega, hHH, fun i i1 i2 => ?_, by simp [e0], by simp [e1], by simp [← hN], by simp [wm]⟩
        by_cases i3 : i = m + 1
        · subst i3; rw [hhit]; omega
        · exact h5 i i1 (by omega)
    · rw [if_neg hfit] at hv
      obtain ⟨rfl, rfl⟩ := hv
      simp [tup]
      exact ⟨m, h1, h5, .inr (by omega), rfl⟩
  · have h7 : m = 11 := by omega
    subst h7
    simp [s75_0, e0, e1, e6, e7, tup]
    exact ⟨11, by omega, h5, .inl rfl, rfl⟩
end
end Go.Proofs.YtlboioplemlneaaGreat.K
/- A new reader of bits; a code's bits turned round. -/
set_option maxRecDepth 100000
set_option maxHeartbeats 2000000
set_option linter.unusedVariables false
set_option linter.unusedSimpArgs false
namespace Go.Proofs.YtlboioplemlneaaGreat.K
open Go Go.Proofs
section
variable {H : Heap} {s : Bytes}
theorem NewReader_t {a : Option Addr} {c : Nat} (hr : kRow H 5 1 s.length a = some (bvs s)) (hs : s.length ≤ 1000000) :
    Wf S 74 [.slice a s.length c] H fun v H' => ∃ sv b, v = .pointer (some ⟨b, 0, none⟩) ∧ H.next ≤ b ∧ b < H'.next ∧ H'.get b = BrB sv 0 ∧ By H' b sv s ∧ Kp H.next H H' := by
  refine w74 rfl rfl _ ?_
  have hrm : s.length ≤ roomMax := by unfold roomMax; omega
  by_cases h0 : s.length = 0
  · have hs0 : s = [] := List.eq_nil_of_length_eq_zero h0
    subst hs0
    simp at hr
    simp [s74, hr, kApp, kFill, evPs, isTup, cellsL, wr]
    refine ⟨.slice none 0 0, rfl, ⟨none, 0, rfl, fun h => by simp at h⟩, by simp, fun k hk => get_old hk⟩
  · simp [s74, hr, kApp, h0, hrm, kFill, evPs, isTup, cellsL, wr]
    refine ⟨.slice (some ⟨H.next, 0, none⟩) s.length capx, rfl, ⟨some ⟨H.next, 0, none⟩, capx, rfl, fun h => ⟨H.next, rfl, by omega, ?_⟩⟩, by simp; omega, fun k hk => ?_⟩
    · rw [get_old (by simp)]; simp
    · rw [get_old (by simp; omega), get_old hk]
/-- a number's lowest bits, the other way round -/
def turnN (c : Nat) : Nat → Nat
  | 0 => 0
  | n + 1 => 2 * turnN c n + c / 2 ^ n % 2
theorem turnN_lt (c : Nat) : ∀ n, turnN c n < 2 ^ n
  | 0 => by simp [turnN]
  | n + 1 => by have := turnN_lt c n; have := Nat.mod_lt (c / 2 ^ n) (by omega : 0 < 2); simp only [turnN, Nat.pow_succ]; omega
theorem turned_t (c n : Nat) (hc : c < 1000000) (hn : n ≤ 20) : Wf S 61 [.int .i64 c, .int .i64 n] H fun v H' => H' = H ∧ v = .int .u32 (turnN c n : Nat) := by
  refine w61 rfl rfl _ _ ?_
  simp [s61]
  refine l61_0 S (fun d e H' => ∃ i : Nat, i ≤ n ∧ d = n - i ∧ H' = H ∧ e 0 = .int .i64 ((c / 2 ^ i : Nat) : Int) ∧ e 5 = .int .u32 (turnN c i : Nat) ∧ e 6 = .int .i64 n ∧ e 7 = .int .i64 i) n ⟨0, by omega, by omega, rfl, by simp, by simp [turnN], by simp, by simp⟩ ?_
  rintro d e H' ⟨i, hi, rfl, rfl, e0, e5, e6, e7⟩
  by_cases h3 : i < n
  · have ht := turnN_lt c i
    have p20 : 2 ^ i ≤ 2 ^ 20 := Nat.pow_le_pow_right (by omega) (by omega)
    have e20 : (2 : Nat) ^ 20 = 1048576 := by decide
    have hle : c / 2 ^ i ≤ c := Nat.div_le_self _ _
    have hsucc : c / 2 ^ (i + 1) = c / 2 ^ i / 2 := by rw [Nat.pow_succ, Nat.div_div_eq_div_mul]
    have hts : turnN c (i + 1) = 2 * turnN c i + c / 2 ^ i % 2 := rfl
    obtain ⟨T, hT⟩ : ∃ T, T = turnN c i := ⟨_, rfl⟩
    obtain ⟨D, hD⟩ : ∃ D, D = c / 2 ^ i := ⟨_, rfl⟩
    obtain ⟨B, hB⟩ : ∃ B, B = D % 2 := ⟨_, rfl⟩
    obtain ⟨E, hE⟩ : ∃ E, E = D / 2 := ⟨_, rfl⟩
    obtain ⟨U, hU⟩ : ∃ U, U = 2 * T := ⟨_, rfl⟩
    obtain ⟨V, hV⟩ : ∃ V, V = U + B := ⟨_, rfl⟩
    rw [← hT] at ht e5 hts
    rw [← hD] at e0 hle hsucc hts
    rw [← hB, ← hU, ← hV] at hts
    rw [← hE] at hsucc
    have o1 : kBin .shl (.int .u32 (T : Int)) (.int .u64 1) = some (.int .u32 (U : Int)) := by
      rw [kb_shl, if_neg (by omega)]
      have hm : min (1 : Int).toNat IntKind.u32.bits = 1 := by decide
      rw [hm, wu32 (by omega) (by omega)]
      congr 2; omega
    have o2 : kBin .and (.int .i64 (D : Int)) (.int .i64 1) = some (.int .i64 (B : Int)) := by
      have h := kb_andN (k := .i64) (a := D) (b := 1) (by show D < 2 ^ 64; omega) (by decide)
      have e : D &&& 1 = B := by rw [hB]; exact and_low D 1
      rw [e, wi (by omega) (by omega)] at h
      exact h
    have o3 : kBin .or (.int .u32 (U : Int)) (.int .u32 (B : Int)) = some (.int .u32 (V : Int)) := by
      have hor := or_high (v := B) (g := 1) (p := T) (by omega)
      rw [kb_orN (by show _ < 2 ^ 32; omega) (by show _ < 2 ^ 32; omega), Nat.or_comm, show U = T * 2 ^ 1 from by omega, hor, wu32 (by omega) (by omega)]
      congr 3; omega
    have o4 : kBin .shr (.int .i64 (D : Int)) (.int .u64 1) = some (.int .i64 (E : Int)) := by
      rw [kb_shr, if_neg (by omega)]
      have hm : min (1 : Int).toNat IntKind.i64.bits = 1 := by decide
      rw [hm, Int.fdiv_eq_ediv_of_nonneg _ (by decide)]
      congr 2; omega
    have w1 : IntKind.u32.wrap (B : Int) = B := wu32 (by omega) (by omega)
    have w2 : IntKind.i64.wrap ((i : Int) + 1) = (i : Int) + 1 := wi (by omega) (by omega)
    simp [s61_0, e0, e5, e6, e7, h3, o1, o2, o3, o4, w1, w2]
    refine ⟨n - (i + 1), by omega, i + 1, by omega, rfl, by exact_mod_cast hsucc.symm, by rw [hts], by simp⟩
  · have h5 : i = n := by omega
    subst h5
    simp [s61_0, e5, e6, e7]
end
end Go.Proofs.YtlboioplemlneaaGreat.K
/- The document's bits of a number. -/
set_option maxRecDepth 100000
set_option maxHeartbeats 2000000
set_option linter.unusedVariables false
set_option linter.unusedSimpArgs false
namespace Go.Proofs.YtlboioplemlneaaGreat.K
open Go Go.Proofs
section
variable {H : Heap}
/-- a number's lowest bits, the lowest one first -/
def bitsN (v n : Nat) : List Int := (List.range n).map fun i => ((v / 2 ^ i % 2 : Nat) : Int)
theorem bitsN_succ (v n : Nat) : bitsN v (n + 1) = bitsN v n ++ [((v / 2 ^ n % 2 : Nat) : Int)] := by simp [bitsN, List.range_succ]
theorem bitsN_len (v n : Nat) : (bitsN v n).length = n := by simp [bitsN]
def ivs (l : List Int) : List Value := l.map fun x => .int .i64 x
structure OfI (H0 : Heap) (v n : Nat) (d : Nat) (e : Nat → Value) (H : Heap) (i : Nat) : Prop where
  h1 : i ≤ n
  h2 : d = n - i
  hk : Kp H0.next H0 H
  hA : Acc 3 1 H0.next H.next H (e 5) i (ivs (bitsN v i))
  e0 : e 0 = .int .u32 (v : Int)
  e1 : e 1 = .int .i64 (n : Int)
  e6 : e 6 = .int .i64 (i : Int)
theorem Of_t (v n : Nat) (hv : v < 4294967296) (hn : n ≤ 32) : Wf S 67 [.int .u32 v, .int .i64 n] H fun r H' => Kp H.next H H' ∧ Acc 3 1 H.next H'.next H' r n (ivs (bitsN v n)) := by
  refine w67 rfl rfl _ _ ?_
  simp [s67]
  refine l67_0 S (fun d e H' => ∃ i, OfI H v n d e H' i) n ⟨0, by omega, by omega, Kp.refl _ _, by simpa [bitsN, ivs] using Acc.nil, by simp, by simp, by simp⟩ ?_
  rintro d e H' ⟨i, hi, rfl, hk, hA, e0, e1, e6⟩
  by_cases h3 : i < n
  · obtain ⟨D, hD⟩ : ∃ D, D = v / 2 ^ i := ⟨_, rfl⟩
    obtain ⟨B, hB⟩ : ∃ B, B = D % 2 := ⟨_, rfl⟩
    have hDv : D ≤ v := by rw [hD]; exact Nat.div_le_self _ _
    have hib : min i IntKind.u32.bits = i := by
      have : IntKind.u32.bits = 32 := rfl
      omega
    have o1 : kBin .shr (.int .u32 (v : Int)) (.int .i64 (i : Int)) = some (.int .u32 (D : Int)) := by
      rw [kb_shr, if_neg (by omega), Int.toNat_natCast, hib, Int.fdiv_eq_ediv_of_nonneg _ (by exact_mod_cast Nat.zero_le (2 ^ i)), hD]
      congr 2
    have w1 : IntKind.i64.wrap (D : Int) = D := wi (by omega) (by omega)
    have w2 : IntKind.i64.wrap ((i : Int) + 1) = (i : Int) + 1 := wi (by omega) (by omega)
    have w3 : IntKind.i64.wrap (B : Int) = (B : Int) := wi (by omega) (by omega)
    have hm : (D : Int).tmod 2 = (B : Int) := by rw [hB]; rw [Int.tmod_eq_emod_of_nonneg (by omega)]; omega
    obtain ⟨v2, H2, hap, hA2, hn2, hk2⟩ := hA.app (bytes := 8) (new := [.int .i64 (B : Int)]) hk.1 (Nat.le_refl _) rfl (by unfold roomMax; omega)
    simp [s67_0, e0, e1, e6, h3, o1, w1, w2, w3, hm, kFill, evPs, isTup, cellsL, wr, kRow, rd, hap]
    refine ⟨n - (i + 1), by omega, i + 1, by omega, rfl, ⟨by have := hk.1; omega, fun k hk' => (hk2 k (by have := hk.1; omega) (.inl hk')).trans (hk.2 k hk')⟩, ?_, by simp [e0], by simp [e1], by simp⟩
    rw [bitsN_succ, ← hD, ← hB]
    simpa [ivs] using hA2
  · have h5 : i = n := by omega
    subst h5
    simp [s67_0, e1, e6]
    exact ⟨hk, hA⟩
end
end Go.Proofs.YtlboioplemlneaaGreat.K
/- Several parts appended at once; the document's bits of bytes. -/
set_option maxRecDepth 100000
set_option maxHeartbeats 2000000
set_option linter.unusedVariables false
set_option linter.unusedSimpArgs false
namespace Go.Proofs.YtlboioplemlneaaGreat.K
open Go Go.Proofs
/-- several parts more, by append -/
theorem Acc.appN {t z N M n m bytes : Nat} {H : Heap} {v : Value} {cs new : List Value} (h : Acc t z N M H v n cs) (hN : N ≤ H.next) (hM : M ≤ H.next) (hm : 0 < m) (hz : new.length = m * z) (hn : (n + m) * bytes ≤ roomMax ∧ n + m ≤ roomMax) :
    ∃ v' H', kApp H t z bytes v m new = some (v', H') ∧ Acc t z N H'.next H' v' (n + m) (cs ++ new) ∧ H.next < H'.next ∧ ∀ k, k < H.next → k < N ∨ M ≤ k → H'.get k = H.get k := by
  have hm0 : ¬ m = 0 := by omega
  rcases h with ⟨rfl, rfl, rfl⟩ | ⟨b, c, h1, h2, rfl, hc, h3, h4⟩
  · have h5 : m * bytes ≤ roomMax ∧ m ≤ roomMax := by simpa using hn
    refine ⟨_, _, by simp [kApp, h5.1, h5.2, hm0]; exact ⟨rfl, rfl⟩, ?_, by simp, fun k hk _ => get_old hk⟩
    refine .inr ⟨H.next, capx, by omega, by simp, by simp, .inl rfl, ?_, by simp [hz]⟩
    simp
  · have hb := lt_cells h3
    have hrd : rd cs 0 (n * z) = some cs := by
      unfold rd; rw [if_pos (by omega), List.drop_zero, List.take_of_length_le (by omega)]
    rcases hc with rfl | rfl
    · refine ⟨_, _, by simp only [kApp, h3, hn, and_self, if_true, hm0, if_false, hrd, Option.map_some]; exact rfl, ?_, ?_, ?_⟩
      · refine .inr ⟨H.next, capx, by omega, by simp [next_put], rfl, .inl rfl, ?_, by simp [h4, hz, Nat.add_mul]⟩
        have := get_last (H := H.put b .dead) (b := .cells (cs ++ new) t true)
        rw [next_put] at this; exact this
      · simp [next_put]
      · intro k hk hkN
        rw [get_old (by rw [next_put]; omega), get_put_ne (by omega)]
    · have hx : ¬ c = capx := by
        have : roomMax < capx := by decide
        omega
      have hx2 : ¬ c + m ≤ c := by omega
      refine ⟨_, _, by simp only [kApp, h3, hn, and_self, if_true, hx, hx2, if_false, hrd, Option.map_some]; exact rfl, ?_, ?_, ?_⟩
      · refine .inr ⟨H.next, capx, by omega, by simp, rfl, .inl rfl, get_last, by simp [h4, hz, Nat.add_mul]⟩
      · simp
      · intro k hk hkN
        rw [get_old hk]
section
variable {H : Heap}
def bitsB (s : Bytes) : List Int := s.flatMap fun x => bitsN x.toNat 8
theorem bitsB_succ {s : Bytes} {i : Nat} {x : UInt8} (h : s[i]? = some x) : bitsB (s.take (i + 1)) = bitsB (s.take i) ++ bitsN x.toNat 8 := by
  have hl : i < s.length := by
    rcases Nat.lt_or_ge i s.length with h' | h'
    · exact h'
    · rw [List.getElem?_eq_none h'] at h; cases h
  rw [List.take_add_one, h]; simp [bitsB]
structure BitI (H0 : Heap) (s : Bytes) (sl : Value) (d : Nat) (e : Nat → Value) (H : Heap) (i : Nat) : Prop where
  h1 : i ≤ s.length
  h2 : d = s.length - i
  hk : Kp H0.next H0 H
  hA : Acc 3 1 H0.next H.next H (e 3) (8 * i) (ivs (bitsB (s.take i)))
  e0 : e 0 = sl
  e4 : e 4 = .int .i64 (i : Int)
theorem Bits_t {s : Bytes} {a : Option Addr} {c : Nat} (ha : 0 < s.length → ∃ bb, a = some ⟨bb, 0, none⟩ ∧ H.get bb = .cells (bvs s) 5 true) (hs : s.length ≤ 1000000) : Wf S 38 [.slice a s.length c] H fun r H' => Kp H.next H H' ∧ Acc 3 1 H.next H'.next H' r (8 * s.length) (ivs (bitsB s)) := by
  refine w38 rfl rfl _ ?_
  simp [s38]
  refine l38_0 S (fun d e H' => ∃ i, BitI H s (.slice a s.length c) d e H' i) s.length ⟨0, by omega, by omega, Kp.refl _ _, by simpa [bitsB, ivs] using Acc.nil, by simp, by simp⟩ ?_
  rintro d e H' ⟨i, hi, rfl, hk, hA, e0, e4⟩
  by_cases h3 : i < s.length
  · obtain ⟨bb, rfl, hgb0⟩ := ha (by omega)
    have hgb := (hk.2 bb (lt_cells hgb0)).trans hgb0
    obtain ⟨x, hx⟩ : ∃ x, s[i]? = some x := ⟨_, List.getElem?_eq_getElem h3⟩
    have hxb := x.toNat_lt
    have hcx : (bvs s)[i]? = some (.int .u8 (x.toNat : Int)) := by simp [bvs, bv, hx]
    have w1 : IntKind.u32.wrap (x.toNat : Int) = x.toNat := wu32 (by omega) (by omega)
    have w2 : IntKind.i64.wrap ((i : Int) + 1) = (i : Int) + 1 := wi (by omega) (by omega)
    simp [s38_0, e0, e4, h3, addOff, hgb, hcx, w1]
    refine (Of_t x.toNat 8 (by omega) (by omega)).mono ?_
    rintro v H1 ⟨hk1, hA1⟩
    have hAk := hA.kp (H' := H1) fun b _ hb => hk1.2 b hb
    obtain ⟨a1, c1, rfl, hrow⟩ := hA1.row
    have hn1 := hk1.1
    have hn0 := hk.1
    obtain ⟨v2, H2, hap, hA2, hn2, hk2⟩ := hAk.appN (m := 8) (bytes := 8) (new := ivs (bitsN x.toNat 8)) (by omega) hn1 (by omega) (by simp [ivs, bitsN_len]) (by unfold roomMax; omega)
    simp [hrow, hap, w2]
    refine ⟨s.length - (i + 1), by omega, i + 1, by omega, rfl, ⟨by omega, fun k hk' => (hk2 k (by omega) (.inl hk')).trans ((hk1.2 k (by omega)).trans (hk.2 k hk'))⟩, ?_, by simp [e0], by simp⟩
    rw [bitsB_succ hx]
    simpa [ivs, Nat.mul_add] using hA2
  · have h5 : i = s.length := by omega
    subst h5
    rw [List.take_length] at hA
    simp [s38_0, e0, e4]
    exact ⟨hk, hA⟩
end
end Go.Proofs.YtlboioplemlneaaGreat.K
/- Do bits begin with these? -/
set_option maxRecDepth 100000
set_option maxHeartbeats 2000000
set_option linter.unusedVariables false
set_option linter.unusedSimpArgs false
namespace Go.Proofs.YtlboioplemlneaaGreat.K
open Go Go.Proofs
section
variable {H : Heap}
theorem take_iff {l m : List Int} : l.take m.length = m ↔ m.length ≤ l.length ∧ ∀ j, j < m.length → l[j]? = m[j]? := by
  constructor
  · intro h
    have hl := congrArg List.length h
    rw [List.length_take] at hl
    refine ⟨by omega, fun j hj => ?_⟩
    have q : (l.take m.length)[j]? = l[j]? := by rw [List.getElem?_take, if_pos hj]
    rw [← q, h]
  · rintro ⟨h1, h2⟩
    apply List.ext_getElem?
    intro j
    rw [List.getElem?_take]
    split
    · rename_i hj; exact h2 j hj
    · rename_i hj; rw [List.getElem?_eq_none (by omega)]
theorem begins_t {a a2 : Option Addr} {c c2 : Nat} {l m : List Int} (hl : Iv H a l) (hm : Iv H a2 m) (b1 : l.length ≤ 1000000) (b2 : m.length ≤ 1000000) :
    Wf S 39 [.slice a l.length c, .slice a2 m.length c2] H fun v H' => H' = H ∧ v = .bool (decide (l.take m.length = m)) := by
  refine w39 rfl rfl _ _ ?_
  by_cases h0 : l.length < m.length
  · have hf : ¬ l.take m.length = m := by rw [take_iff]; omega
    simp [s39, h0, hf]
  · simp [s39, h0]
    refine l39_0 S (fun d e H' => ∃ i : Nat, i ≤ m.length ∧ d = m.length - i ∧ H' = H ∧ (∀ j, j < i → l[j]? = m[j]?) ∧ e 0 = .slice a l.length c ∧ e 1 = .slice a2 m.length c2 ∧ e 5 = .int .i64 (i : Int)) m.length ⟨0, by omega, by omega, rfl, by omega, by simp, by simp, by simp⟩ ?_
    rintro d e H' ⟨i, hi, rfl, rfl, hj, e0, e1, e5⟩
    by_cases h3 : i < m.length
    · have h4 : i < l.length := by omega
      obtain ⟨b, o, cs, rw, rfl, hg, hc⟩ := hl (by omega)
      obtain ⟨b', o', cs', rw', rfl, hg', hc'⟩ := hm (by omega)
      obtain ⟨x, hx⟩ : ∃ x, l[i]? = some x := ⟨_, List.getElem?_eq_getElem h4⟩
      obtain ⟨y, hy⟩ : ∃ y, m[i]? = some y := ⟨_, List.getElem?_eq_getElem h3⟩
      have hcx := hc _ x hx
      have hcy := hc' _ y hy
      have w2 : IntKind.i64.wrap ((i : Int) + 1) = (i : Int) + 1 := wi (by omega) (by omega)
      by_cases hxy : x = y
      · subst hxy
        simp [s39_0, e0, e1, e5, h3, h4, addOff, hg, hg', hcx, hcy, w2]
        refine ⟨m.length - (i + 1), by omega, i + 1, by omega, rfl, fun j hj' => ?_, by simp⟩
        by_cases hji : j = i
        · rw [hji, hx, hy]
        · exact hj j (by omega)
      · have hf : ¬ l.take m.length = m := by
          rw [take_iff]
          rintro ⟨_, q⟩
          have := q i h3
          rw [hx, hy] at this
          exact hxy (Option.some.inj this)
        simp [s39_0, e0, e1, e5, h3, h4, addOff, hg, hg', hcx, hcy, w2, hxy, hf]
    · have h5 : i = m.length := by omega
      subst h5
      have hf : l.take m.length = m := take_iff.2 ⟨by omega, hj⟩
      simp [s39_0, e1, e5, hf]
end
end Go.Proofs.YtlboioplemlneaaGreat.K
/- A symbol's bits, as the document reads them. -/
set_option maxRecDepth 100000
set_option maxHeartbeats 2000000
set_option linter.unusedVariables false
set_option linter.unusedSimpArgs false
namespace Go.Proofs.YtlboioplemlneaaGreat.K
open Go Go.Proofs
section
variable {H : Heap}
/-- a code's first j bits of n, the first one first -/
def topB (c n j : Nat) : List Int := (List.range j).map fun i => ((c / 2 ^ (n - 1 - i) % 2 : Nat) : Int)
theorem topB_succ (c n j : Nat) : topB c n (j + 1) = topB c n j ++ [((c / 2 ^ (n - 1 - j) % 2 : Nat) : Int)] := by simp [topB, List.range_succ]
/-- a symbol's bits -/
def codeB (l : List Int) (s : Nat) : List Int := topB (codeOf l s).toNat (at0 l s).toNat (at0 l s).toNat
structure CodeI (H0 : Heap) (c n : Nat) (d : Nat) (e : Nat → Value) (H : Heap) (j : Nat) : Prop where
  h1 : j ≤ n
  h2 : d = n - j
  hk : Kp H0.next H0 H
  hA : Acc 3 1 H0.next H.next H (e 5) j (ivs (topB c n j))
  e6 : e 6 = .int .i64 (c : Int)
  e7 : e 7 = .int .i64 ((n : Int) - 1 - j)
theorem Code_t {a : Option Addr} {c : Nat} {l : List Int} {s : Nat} (hl : Iv H a l) (hr : rightB l = true) (hs : s < l.length) (hp : 0 < at0 l s) :
    Wf S 37 [.slice a l.length c, .int .i64 s] H fun r H' => Kp H.next H H' ∧ Acc 3 1 H.next H'.next H' r (at0 l s).toNat (ivs (codeB l s)) := by
  have hlen := right_len hr
  have hall := right_all hr
  refine w37 rfl rfl _ _ ?_
  simp [s37]
  refine (rCodes_t hl hr).mono ?_
  rintro v H1 ⟨hk1, rfl, ho⟩
  have hl1 := hl.kp hk1
  obtain ⟨b, o, cs, rw, rfl, hg, hc⟩ := hl1 (by omega)
  obtain ⟨x, hx⟩ : ∃ x, l[s]? = some x := ⟨_, List.getElem?_eq_getElem hs⟩
  have hcx := hc _ x hx
  have hax := at0_of hx
  have hxb := hall s
  rw [hax] at hxb hp
  obtain ⟨n, hn⟩ : ∃ n, n = x.toNat := ⟨_, rfl⟩
  have hcb := code_bd hall hlen (n := x.toNat) (s := s) (by omega) (by omega) (by omega)
  have hco : codeOf l s = codeAt l x.toNat s := by unfold codeOf; rw [hax, if_pos hp]
  rw [← hco] at hcb
  obtain ⟨q, hq⟩ : ∃ q, q = (codeOf l s).toNat := ⟨_, rfl⟩
  have hqi : codeOf l s = (q : Int) := by omega
  have hcq : (ints (codes l))[s]? = some (.int .i64 (q : Int)) := by simp [ints, codes, hs, hqi]
  have hg1 : H1.get H.next = .cells (ints (codes l)) 3 true := ho
  have hxn : x = (n : Int) := by omega
  have w1 : IntKind.i64.wrap (x - 1) = (n : Int) - 1 := by rw [wi (by omega) (by omega)]; omega
  have hcB : codeB l s = topB q n n := by unfold codeB; rw [hax, ← hn, ← hq]
  rw [hcB, hax, ← hn]
  simp [hs, addOff, hg1, hcq, hg, hcx, w1]
  refine l37_0 S (fun d e H' => ∃ j, CodeI H1 q n d e H' j) n ⟨0, by omega, by omega, Kp.refl _ _, by simpa [topB, ivs] using Acc.nil, by simp, by simp⟩ ?_
  rintro d e H' ⟨j, hj, rfl, hk, hA, e6, e7⟩
  by_cases h3 : j < n
  · obtain ⟨i, hi⟩ : ∃ i, i = n - 1 - j := ⟨_, rfl⟩
    have hii : (n : Int) - 1 - j = (i : Int) := by omega
    rw [hii] at e7
    obtain ⟨D, hD⟩ : ∃ D, D = q / 2 ^ i := ⟨_, rfl⟩
    obtain ⟨B, hB⟩ : ∃ B, B = D % 2 := ⟨_, rfl⟩
    have hDq : D ≤ q := by rw [hD]; exact Nat.div_le_self _ _
    have hpp := p2_pos i
    have hp2 : p2 i = ((2 ^ i : Nat) : Int) := by unfold p2; exact_mod_cast rfl
    have hdv : (q : Int).tdiv (p2 i) = (D : Int) := by rw [Int.tdiv_eq_ediv_of_nonneg (by omega), hp2, hD]; exact_mod_cast rfl
    have hne : ¬ p2 i = 0 := by omega
    have w2 : IntKind.i64.wrap (D : Int) = D := wi (by omega) (by omega)
    have w3 : IntKind.i64.wrap ((i : Int) - 1) = (n : Int) - 1 - (j + 1 : Nat) := by rw [wi (by omega) (by omega)]; omega
    have hm : (D : Int).tmod 2 = (B : Int) := by rw [hB, Int.tmod_eq_emod_of_nonneg (by omega)]; omega
    obtain ⟨v2, H2, hap, hA2, hn2, hk2⟩ := hA.app (bytes := 8) (new := [.int .i64 (B : Int)]) hk.1 (Nat.le_refl _) rfl (by unfold roomMax; omega)
    simp [s37_0, e6, e7]
    refine (Size_t H' i (by omega)).mono ?_
    rintro v H3 ⟨rfl, rfl⟩
    simp [e6, e7, hne, hdv, w2, hm, kFill, evPs, isTup, cellsL, wr, kRow, rd, hap, w3]
    refine ⟨n - (j + 1), by omega, j + 1, by omega, rfl, ⟨by have := hk.1; omega, fun k hk' => (hk2 k (by have := hk.1; omega) (.inl hk')).trans (hk.2 k hk')⟩, ?_, by simp [e6], by simp⟩
    rw [topB_succ, ← hi, ← hD, ← hB]
    simpa [ivs] using hA2
  · have h5 : j = n := by omega
    subst h5
    have hneg : (j : Int) - 1 - j = -1 := by omega
    rw [hneg] at e7
    simp [s37_0, e7]
    have hkk : Kp H.next H H' := hk1.trans (hk.mono hk1.1)
    refine ⟨hkk, ?_⟩
    rcases hA with h | ⟨b', c', q1, q2, q3, q4, q5, q6⟩
    · exact .inl h
    · exact .inr ⟨b', c', by have := hk1.1; omega, q2, q3, q4, q5, q6⟩
end
end Go.Proofs.YtlboioplemlneaaGreat.K
/- What a writer of bits holds, as bytes of its own. -/
set_option maxRecDepth 100000
set_option maxHeartbeats 2000000
set_option linter.unusedVariables false
set_option linter.unusedSimpArgs false
namespace Go.Proofs.YtlboioplemlneaaGreat.K
open Go Go.Proofs
section
variable {H : Heap}
def BwB (sv : Value) (n : Nat) : Blk := .cells [sv, .int .i64 n] 91 true
theorem WBytes_t {w n m c : Nat} {a : Option Addr} {cs : List Value} (hg : H.get w = BwB (.slice a n c) m) (hr : kRow H 5 1 n a = some cs) (hl : cs.length = n) (hn : n ≤ 1000000) :
    Wf S 62 [.pointer (some ⟨w, 0, none⟩)] H fun v H' => Kp H.next H H' ∧ Acc 5 1 H.next H'.next H' v n cs := by
  refine w62 rfl rfl _ ?_
  have hg' : H.get w = .cells [.slice a n c, .int .i64 m] 91 true := hg
  by_cases h0 : n = 0
  · subst h0
    have hc : cs = [] := List.eq_nil_of_length_eq_zero hl
    subst hc
    simp [s62, kEq, addOff, hg', hr, kApp]
    exact ⟨Kp.refl _ _, Acc.nil⟩
  · obtain ⟨v2, H2, hap, hA2, hn2, hk2⟩ := (Acc.nil (t := 5) (z := 1) (N := H.next) (M := H.next) (H := H)).appN (m := n) (bytes := 1) (new := cs) (Nat.le_refl _) (Nat.le_refl _) (by omega) (by omega) (by unfold roomMax; omega)
    simp [s62, kEq, addOff, hg', hr, hap]
    refine ⟨⟨by omega, fun k hk => hk2 k hk (.inl hk)⟩, ?_⟩
    simpa using hA2
end
end Go.Proofs.YtlboioplemlneaaGreat.K
/- A writer's bits as one number: what its bytes are, plainly. -/
set_option maxRecDepth 100000
set_option maxHeartbeats 2000000
set_option linter.unusedVariables false
namespace Go.Proofs.YtlboioplemlneaaGreat.K
open Go Go.Proofs
/-- a number's byte -/
def nby (V j : Nat) : Nat := V / 2 ^ (8 * j) % 256
/-- n bits, of the number V, as bytes -/
def packN (V n : Nat) : Bytes := (List.range ((n + 7) / 8)).map fun j => UInt8.ofNat (nby V j)
theorem packN_len (V n : Nat) : (packN V n).length = (n + 7) / 8 := by simp [packN]
theorem nby_lt (V j : Nat) : nby V j < 256 := Nat.mod_lt _ (by omega)
theorem nby_add {V n j m : Nat} (h : 8 * j ≤ n) : (V + m * 2 ^ n) / 2 ^ (8 * j) = V / 2 ^ (8 * j) + m * 2 ^ (n - 8 * j) := by
  have e : 2 ^ n = 2 ^ (n - 8 * j) * 2 ^ (8 * j) := by rw [← Nat.pow_add]; congr 1; omega
  rw [e, ← Nat.mul_assoc, Nat.add_mul_div_right _ _ (Nat.pow_pos (by omega))]
theorem nby_low {V n j m : Nat} (h : j < n / 8) : nby (V + m * 2 ^ n) j = nby V j := by
  unfold nby
  rw [nby_add (by omega)]
  have e : 2 ^ (n - 8 * j) = 2 ^ (n - 8 * j - 8) * 256 := by
    rw [show (256 : Nat) = 2 ^ 8 from by decide, ← Nat.pow_add]; congr 1; omega
  rw [e, ← Nat.mul_assoc, Nat.add_mul_mod_self_right]
theorem nby_top {V n : Nat} (hV : V < 2 ^ n) : V / 2 ^ (8 * (n / 8)) < 2 ^ (n % 8) := by
  rw [Nat.div_lt_iff_lt_mul (Nat.pow_pos (by omega)), ← Nat.pow_add]
  have : n % 8 + 8 * (n / 8) = n := by omega
  rw [this]; exact hV
theorem nby_at {V n m k : Nat} (hV : V < 2 ^ n) (hm : m < 2 ^ k) (hk : k + n % 8 ≤ 8) : nby (V + m * 2 ^ n) (n / 8) = nby V (n / 8) + m * 2 ^ (n % 8) := by
  have ht := nby_top hV
  have hn : n - 8 * (n / 8) = n % 8 := by omega
  have h8 : 2 ^ (n % 8) ≤ 2 ^ 8 := Nat.pow_le_pow_right (by omega) (by omega)
  have e8 : (2 : Nat) ^ 8 = 256 := by decide
  have hs : nby V (n / 8) = V / 2 ^ (8 * (n / 8)) := by unfold nby; exact Nat.mod_eq_of_lt (by omega)
  rw [hs]
  unfold nby
  rw [nby_add (by omega), hn]
  apply Nat.mod_eq_of_lt
  have h1 : (m + 1) * 2 ^ (n % 8) ≤ 2 ^ k * 2 ^ (n % 8) := Nat.mul_le_mul_right _ hm
  have h2 : 2 ^ k * 2 ^ (n % 8) ≤ 2 ^ 8 := by rw [← Nat.pow_add]; exact Nat.pow_le_pow_right (by omega) hk
  rw [Nat.succ_mul] at h1
  omega
theorem nby_zero {V n j : Nat} (hV : V < 2 ^ n) (h : n ≤ 8 * j) : nby V j = 0 := by
  unfold nby
  have : 2 ^ n ≤ 2 ^ (8 * j) := Nat.pow_le_pow_right (by omega) h
  rw [Nat.div_eq_of_lt (by omega)]
theorem put_lt {V n m k : Nat} (hV : V < 2 ^ n) (hm : m < 2 ^ k) : V + m * 2 ^ n < 2 ^ (n + k) := by
  have h1 : (m + 1) * 2 ^ n ≤ 2 ^ k * 2 ^ n := Nat.mul_le_mul_right _ hm
  rw [Nat.succ_mul] at h1
  rw [Nat.pow_add, Nat.mul_comm (2 ^ n)]
  omega
theorem packN_get {V n j : Nat} (h : j < (n + 7) / 8) : (packN V n)[j]? = some (UInt8.ofNat (nby V j)) := by simp [packN, h]
/-- bits that begin a byte -/
theorem packN_new {V n m k : Nat} (hV : V < 2 ^ n) (hm : m < 2 ^ k) (h0 : n % 8 = 0) (hk : 0 < k) (hk8 : k ≤ 8) : packN (V + m * 2 ^ n) (n + k) = packN V n ++ [UInt8.ofNat m] := by
  apply List.ext_getElem?
  intro j
  have hl := packN_len V n
  have hq : (n + 7) / 8 = n / 8 := by omega
  have hq2 : (n + k + 7) / 8 = n / 8 + 1 := by omega
  rcases Nat.lt_trichotomy j (n / 8) with h | h | h
  · rw [packN_get (by omega), List.getElem?_append_left (by omega), packN_get (by omega), nby_low h]
  · rw [packN_get (by omega), List.getElem?_append_right (by omega), hl, hq, h, Nat.sub_self, nby_at hV hm (by omega), nby_zero hV (by omega), h0]
    simp
  · rw [List.getElem?_eq_none (by rw [packN_len]; omega), List.getElem?_eq_none (by simp [hl]; omega)]
/-- bits that go on in a byte -/
theorem packN_on {V n m k : Nat} (hV : V < 2 ^ n) (hm : m < 2 ^ k) (h0 : 0 < n % 8) (hk : 0 < k) (hk8 : k + n % 8 ≤ 8) : packN (V + m * 2 ^ n) (n + k) = (packN V n).set (n / 8) (UInt8.ofNat (nby V (n / 8) + m * 2 ^ (n % 8))) := by
  apply List.ext_getElem?
  intro j
  have hl := packN_len V n
  have hq : (n + 7) / 8 = n / 8 + 1 := by omega
  have hq2 : (n + k + 7) / 8 = n / 8 + 1 := by omega
  rcases Nat.lt_trichotomy j (n / 8) with h | h | h
  · rw [packN_get (by omega), List.getElem?_set_ne (by omega), packN_get (by omega), nby_low h]
  · rw [packN_get (by omega), h, List.getElem?_set_self (by omega), nby_at hV hm (by omega)]
  · rw [List.getElem?_eq_none (by rw [packN_len]; omega), List.getElem?_eq_none (by rw [List.length_set, hl]; omega)]
end Go.Proofs.YtlboioplemlneaaGreat.K
/- Which bits stand where, plainly. -/
set_option maxRecDepth 100000
set_option maxHeartbeats 2000000
set_option linter.unusedVariables false
namespace Go.Proofs.YtlboioplemlneaaGreat.K
open Go Go.Proofs
theorem bitsB_len (s : Bytes) : (bitsB s).length = 8 * s.length := by
  induction s with
  | nil => rfl
  | cons x t ih =>
    have : bitsB (x :: t) = bitsN x.toNat 8 ++ bitsB t := rfl
    rw [this, List.length_append, ih, bitsN_len, List.length_cons]; omega
theorem bitsB_get : ∀ (s : Bytes) (i : Nat), i < 8 * s.length → (bitsB s)[i]? = some ((bitAt s i : Nat) : Int)
  | [], i, h => by simp at h
  | x :: t, i, h => by
    have e : bitsB (x :: t) = bitsN x.toNat 8 ++ bitsB t := rfl
    rw [e]
    rcases Nat.lt_or_ge i 8 with h8 | h8
    · rw [List.getElem?_append_left (by rw [bitsN_len]; exact h8)]
      have q1 : i / 8 = 0 := by omega
      have q2 : i % 8 = i := by omega
      simp [bitsN, h8, bitAt, q1, q2]
    · rw [List.getElem?_append_right (by rw [bitsN_len]; exact h8), bitsN_len, bitsB_get t (i - 8) (by rw [List.length_cons] at h; omega)]
      have q1 : i / 8 = (i - 8) / 8 + 1 := by omega
      have q2 : i % 8 = (i - 8) % 8 := by omega
      unfold bitAt
      rw [q1, q2, List.getD_cons_succ]
theorem rev_bit (s : Bytes) (a : Nat) : ∀ n i, i < n → revB s a n / 2 ^ (n - 1 - i) % 2 = bitAt s (a + i)
  | 0, i, h => by omega
  | n + 1, i, h => by
    have hb := bitAt_lt s (a + n)
    simp only [revB]
    rcases Nat.lt_or_ge i n with h1 | h1
    · have e : n + 1 - 1 - i = (n - 1 - i) + 1 := by omega
      rw [e, Nat.pow_succ, Nat.mul_comm (2 ^ (n - 1 - i)), ← Nat.div_div_eq_div_mul]
      have : (2 * revB s a n + bitAt s (a + n)) / 2 = revB s a n := by omega
      rw [this, rev_bit s a n i h1]
    · have e : i = n := by omega
      subst e
      have : i + 1 - 1 - i = 0 := by omega
      rw [this, Nat.pow_zero, Nat.div_one]; omega
theorem bits_inj {c d n : Nat} (hc : c < 2 ^ n) (hd : d < 2 ^ n) (h : ∀ k, k < n → c / 2 ^ k % 2 = d / 2 ^ k % 2) : c = d := by
  apply Nat.eq_of_testBit_eq
  intro k
  rcases Nat.lt_or_ge k n with hk | hk
  · rw [Nat.testBit_eq_decide_div_mod_eq, Nat.testBit_eq_decide_div_mod_eq, h k hk]
  · have hp : 2 ^ n ≤ 2 ^ k := Nat.pow_le_pow_right (by omega) hk
    rw [Nat.testBit_lt_two_pow (by omega), Nat.testBit_lt_two_pow (by omega)]
/-- bits begin with a code where the number that stands there is the code -/
theorem begins_iff {s : Bytes} {a c n : Nat} (hc : c < 2 ^ n) (hn : a + n ≤ 8 * s.length) : ((bitsB s).drop a).take n = topB c n n ↔ revB s a n = c := by
  have hget : ∀ i, i < n → (((bitsB s).drop a).take n)[i]? = some ((bitAt s (a + i) : Nat) : Int) := fun i hi => by
    rw [List.getElem?_take, if_pos hi, List.getElem?_drop, bitsB_get s (a + i) (by omega)]
  have htop : ∀ i, i < n → (topB c n n)[i]? = some ((c / 2 ^ (n - 1 - i) % 2 : Nat) : Int) := fun i hi => by simp [topB, hi]
  constructor
  · intro h
    refine bits_inj (revB_lt s a n) hc fun k hk => ?_
    have h1 := hget (n - 1 - k) (by omega)
    rw [h, htop _ (by omega)] at h1
    have e : n - 1 - (n - 1 - k) = k := by omega
    have h2 := rev_bit s a n (n - 1 - k) (by omega)
    rw [e] at h1 h2
    have h3 := Option.some.inj h1
    omega
  · intro h
    apply List.ext_getElem?
    intro i
    rcases Nat.lt_or_ge i n with hi | hi
    · rw [hget i hi, htop i hi, ← h, rev_bit s a n i hi]
    · rw [List.getElem?_eq_none (by rw [List.length_take]; omega), List.getElem?_eq_none (by simp [topB]; omega)]
/-- turned round, the first bit is the lowest -/
theorem turn_bit (c : Nat) : ∀ n i, i < n → turnN c n / 2 ^ i % 2 = c / 2 ^ (n - 1 - i) % 2
  | 0, i, h => by omega
  | n + 1, 0, h => by
    simp only [turnN, Nat.pow_zero, Nat.div_one]
    have : n + 1 - 1 - 0 = n := by omega
    rw [this]; omega
  | n + 1, i + 1, h => by
    simp only [turnN]
    have hb : c / 2 ^ n % 2 < 2 := Nat.mod_lt _ (by omega)
    rw [Nat.pow_succ, Nat.mul_comm (2 ^ i), ← Nat.div_div_eq_div_mul]
    have : (2 * turnN c n + c / 2 ^ n % 2) / 2 = turnN c n := by omega
    rw [this, turn_bit c n i (by omega)]
    have : n + 1 - 1 - (i + 1) = n - 1 - i := by omega
    rw [this]
theorem turn_bits (c n : Nat) : bitsN (turnN c n) n = topB c n n := by
  unfold bitsN topB
  refine List.map_congr_left fun i hi => ?_
  rw [turn_bit c n i (by simpa using hi)]
end Go.Proofs.YtlboioplemlneaaGreat.K
/- A writer's number, bit by bit. -/
set_option maxRecDepth 100000
set_option maxHeartbeats 2000000
set_option linter.unusedVariables false
namespace Go.Proofs.YtlboioplemlneaaGreat.K
open Go Go.Proofs
/-- bits put behind others -/
theorem bitsN_put {V n m k : Nat} (hV : V < 2 ^ n) : bitsN (V + m * 2 ^ n) (n + k) = bitsN V n ++ bitsN m k := by
  apply List.ext_getElem?
  intro i
  rcases Nat.lt_or_ge i n with h | h
  · rw [List.getElem?_append_left (by rw [bitsN_len]; exact h)]
    have h2 : i < n + k := by omega
    have e : 2 ^ n = 2 ^ (n - i) * 2 ^ i := by rw [← Nat.pow_add]; congr 1; omega
    have e2 : 2 ^ (n - i) = 2 ^ (n - i - 1) * 2 := by rw [← Nat.pow_succ]; congr 1; omega
    have q : (V + m * 2 ^ n) / 2 ^ i % 2 = V / 2 ^ i % 2 := by
      rw [e, ← Nat.mul_assoc, Nat.add_mul_div_right _ _ (Nat.pow_pos (by omega)), e2, ← Nat.mul_assoc, Nat.add_mul_mod_self_right]
    simp only [bitsN, List.getElem?_map, List.getElem?_range h, List.getElem?_range h2, Option.map_some, q]
  · rw [List.getElem?_append_right (by rw [bitsN_len]; exact h), bitsN_len]
    rcases Nat.lt_or_ge i (n + k) with h2 | h2
    · have h3 : i - n < k := by omega
      have e : 2 ^ i = 2 ^ n * 2 ^ (i - n) := by rw [← Nat.pow_add]; congr 1; omega
      have q : (V + m * 2 ^ n) / 2 ^ i % 2 = m / 2 ^ (i - n) % 2 := by
        rw [e, ← Nat.div_div_eq_div_mul, Nat.add_mul_div_right _ _ (Nat.pow_pos (by omega)), Nat.div_eq_of_lt hV, Nat.zero_add]
      simp only [bitsN, List.getElem?_map, List.getElem?_range h3, List.getElem?_range h2, Option.map_some, q]
    · rw [List.getElem?_eq_none (by rw [bitsN_len]; omega), List.getElem?_eq_none (by rw [bitsN_len]; omega)]
end Go.Proofs.YtlboioplemlneaaGreat.K
/- A reader of codes, made ready of lengths. -/
set_option maxRecDepth 100000
set_option maxHeartbeats 2000000
set_option linter.unusedVariables false
set_option linter.unusedSimpArgs false
namespace Go.Proofs.YtlboioplemlneaaGreat.K
open Go Go.Proofs
/-- how many of the first s symbols are as long as n -/
def cntS (l : List Int) (n : Nat) : Nat → Nat
  | 0 => 0
  | s + 1 => cntS l n s + if at0 l s = n then 1 else 0
/-- the symbols that are shorter than n, in order, and of those as long as n the first s -/
def ordAt (l : List Int) : Nat → Nat → Bytes
  | 0, _ => []
  | n + 1, 0 => ordAt l n l.length
  | n + 1, s + 1 => ordAt l (n + 1) s ++ if at0 l s = ((n + 1 : Nat) : Int) then [UInt8.ofNat s] else []
theorem codeAt_one (l : List Int) : codeAt l 1 0 = 0 := by simp [codeAt]
theorem cntS_le (l : List Int) (n : Nat) : ∀ s, cntS l n s ≤ s
  | 0 => by simp [cntS]
  | s + 1 => by have := cntS_le l n s; simp only [cntS]; split <;> omega
theorem codeAt_cnt (l : List Int) (n : Nat) : ∀ s, codeAt l (n + 1) s = codeAt l (n + 1) 0 + cntS l (n + 1) s
  | 0 => by simp [cntS]
  | s + 1 => by
    have := codeAt_cnt l n s
    simp only [codeAt, cntS] at *
    rw [this]
    have e : ((n + 1 : Nat) : Int) = (n : Int) + 1 := by omega
    rw [e]
    split <;> omega
theorem ordAt_len (l : List Int) (n : Nat) : ∀ s, (ordAt l (n + 1) s).length = (ordAt l (n + 1) 0).length + cntS l (n + 1) s
  | 0 => by simp [cntS]
  | s + 1 => by
    have := ordAt_len l n s
    simp only [ordAt, cntS, List.length_append] at *
    rw [this]
    split <;> simp <;> omega
/-- cells of a reader of codes that is being made, at N, with its symbols behind it -/
structure Rc (H0 : Heap) (N : Nat) (F C St : Nat → Nat) (o : Bytes) (H : Heap) (cs : List Value) (ov : Value) : Prop where
  kp : Kp N H0 H
  hx : H.get N = .cells cs 127 true
  len : cs.length = 40
  f : ∀ n, n ≤ 12 → cs[n]? = some (.int .i64 (F n))
  c : ∀ n, n ≤ 12 → cs[13 + n]? = some (.int .i64 (C n))
  s : ∀ n, n ≤ 12 → cs[26 + n]? = some (.int .i64 (St n))
  od : cs[39]? = some ov
  a : Acc 5 1 (N + 1) H.next H ov o.length (bvs o)
def updN (F : Nat → Nat) (n v : Nat) (i : Nat) : Nat := if i = n then v else F i
section
variable {H0 H : Heap} {N : Nat} {F C St : Nat → Nat} {o : Bytes} {cs : List Value} {ov : Value}
theorem Rc.lt (h : Rc H0 N F C St o H cs ov) : N < H.next := lt_cells h.hx
theorem Rc.st (h : Rc H0 N F C St o H cs ov) {j : Nat} (hj : j < 40) (v : Int) : kSt H (.pointer (some ⟨N, j, none⟩)) (.int .i64 v) = some (H.put N (.cells (cs.set j (.int .i64 v)) 127 true)) := by
  simp [kSt, h.hx, h.len, hj, oneC]
theorem Rc.upd (h : Rc H0 N F C St o H cs ov) {j : Nat} {v : Value} {F' C' St' : Nat → Nat}
    (hf : ∀ n, n ≤ 12 → (cs.set j v)[n]? = some (.int .i64 (F' n))) (hc : ∀ n, n ≤ 12 → (cs.set j v)[13 + n]? = some (.int .i64 (C' n))) (hs : ∀ n, n ≤ 12 → (cs.set j v)[26 + n]? = some (.int .i64 (St' n))) (hj : j < 39) :
    Rc H0 N F' C' St' o (H.put N (.cells (cs.set j v) 127 true)) (cs.set j v) ov :=
  ⟨h.kp.trans (Kp.put (Nat.le_refl _)), get_put_eq h.lt, by simp [h.len], hf, hc, hs, by rw [List.getElem?_set_ne (by omega)]; exact h.od, by
    rw [next_put]; exact h.a.kp fun b hb _ => get_put_ne (by omega)⟩
theorem Rc.setF (h : Rc H0 N F C St o H cs ov) {n : Nat} (hn : n ≤ 12) (v : Nat) : Rc H0 N (updN F n v) C St o (H.put N (.cells (cs.set n (.int .i64 v)) 127 true)) (cs.set n (.int .i64 v)) ov :=
  h.upd (fun m hm => by
    unfold updN
    by_cases e : m = n
    · subst e; rw [if_pos rfl, List.getElem?_set_self (by rw [h.len]; omega)]
    · rw [if_neg e, List.getElem?_set_ne (by omega)]; exact h.f m hm)
    (fun m hm => by rw [List.getElem?_set_ne (by omega)]; exact h.c m hm) (fun m hm => by rw [List.getElem?_set_ne (by omega)]; exact h.s m hm) (by omega)
theorem Rc.setC (h : Rc H0 N F C St o H cs ov) {n : Nat} (hn : n ≤ 12) (v : Nat) : Rc H0 N F (updN C n v) St o (H.put N (.cells (cs.set (13 + n) (.int .i64 v)) 127 true)) (cs.set (13 + n) (.int .i64 v)) ov :=
  h.upd (fun m hm => by rw [List.getElem?_set_ne (by omega)]; exact h.f m hm) (fun m hm => by
    unfold updN
    by_cases e : m = n
    · subst e; rw [if_pos rfl, List.getElem?_set_self (by rw [h.len]; omega)]
    · rw [if_neg e, List.getElem?_set_ne (by omega)]; exact h.c m hm)
    (fun m hm => by rw [List.getElem?_set_ne (by omega)]; exact h.s m hm) (by omega)
theorem Rc.setS (h : Rc H0 N F C St o H cs ov) {n : Nat} (hn : n ≤ 12) (v : Nat) : Rc H0 N F C (updN St n v) o (H.put N (.cells (cs.set (26 + n) (.int .i64 v)) 127 true)) (cs.set (26 + n) (.int .i64 v)) ov :=
  h.upd (fun m hm => by rw [List.getElem?_set_ne (by omega)]; exact h.f m hm) (fun m hm => by rw [List.getElem?_set_ne (by omega)]; exact h.c m hm) (fun m hm => by
    unfold updN
    by_cases e : m = n
    · subst e; rw [if_pos rfl, List.getElem?_set_self (by rw [h.len]; omega)]
    · rw [if_neg e, List.getElem?_set_ne (by omega)]; exact h.s m hm) (by omega)
/-- one symbol more -/
theorem Rc.one (h : Rc H0 N F C St o H cs ov) (x : UInt8) (hl : o.length ≤ 100000) : ∃ v' H1 H2, kApp (H.push (.cells [bv x] 5 true)) 5 1 1 ov 1 [bv x] = some (v', H1) ∧ H1.get N = .cells cs 127 true ∧
    kSt H1 (.pointer (some ⟨N, 39, none⟩)) v' = some H2 ∧ Rc H0 N F C St (o ++ [x]) H2 (cs.set 39 v') v' := by
  have hlt := h.lt
  obtain ⟨v', H1, e1, hA, hn, hk⟩ := h.a.app (bytes := 1) (new := [bv x]) (by omega) (Nat.le_refl _) rfl (by unfold roomMax; omega)
  have hg : H1.get N = .cells cs 127 true := (hk N hlt (.inl (by omega))).trans h.hx
  have ho : oneC v' = true := by
    obtain ⟨a, c, rfl, _⟩ := hA.len
    rfl
  refine ⟨v', H1, H1.put N (.cells (cs.set 39 v') 127 true), e1, hg, by simp [kSt, hg, h.len, ho], ?_⟩
  refine ⟨h.kp.trans (Kp.trans ⟨by omega, fun k hk' => hk k (by omega) (.inl (by omega))⟩ (Kp.put (Nat.le_refl _))), get_put_eq (by omega), by simp [h.len], ?_, ?_, ?_, ?_, ?_⟩
  · intro n hn; rw [List.getElem?_set_ne (by omega)]; exact h.f n hn
  · intro n hn; rw [List.getElem?_set_ne (by omega)]; exact h.c n hn
  · intro n hn; rw [List.getElem?_set_ne (by omega)]; exact h.s n hn
  · rw [List.getElem?_set_self (by rw [h.len]; omega)]
  · rw [next_put]
    have := hA.kp (H' := H1.put N (.cells (cs.set 39 v') 127 true)) fun b hb _ => get_put_ne (by omega)
    simpa [bvs] using this
structure RdI (H0 : Heap) (a : Option Addr) (c : Nat) (l : List Int) (F St : Nat → Nat) (n s : Nat) (e : Fe) (H : Heap) : Prop where
  r : ∃ cs ov, Rc H0 H0.next F (fun i => if 1 ≤ i ∧ i < n then cntS l i l.length else if i = n then cntS l n s else 0) St (ordAt l n s) H cs ov
  e0 : e 0 = .slice a l.length c
  e3 : e 3 = .pointer (some ⟨H0.next, 0, none⟩)
  e4 : e 4 = .int .i64 (codeAt l n 0)
  e5 : e 5 = .int .i64 n
end
section
variable {H : Heap} {a : Option Addr} {c : Nat} {l : List Int}
theorem ordAt_succ {l : List Int} {n : Nat} (h : 1 ≤ n) (s : Nat) : ordAt l n (s + 1) = ordAt l n s ++ if at0 l s = n then [UInt8.ofNat s] else [] := by
  obtain ⟨m, rfl⟩ : ∃ m, n = m + 1 := ⟨n - 1, by omega⟩
  simp only [ordAt]
theorem ordAt_le {l : List Int} : ∀ n, (ordAt l (n + 1) 0).length + cntS l (n + 1) l.length = (ordAt l (n + 2) 0).length := fun n => by
  rw [← ordAt_len l n l.length]; simp [ordAt]
structure RdJ (H0 : Heap) (a : Option Addr) (c : Nat) (l : List Int) (F St : Nat → Nat) (n d s : Nat) (e : Fe) (H : Heap) : Prop where
  h1 : s ≤ l.length
  h2 : d = l.length - s
  i : RdI H0 a c l F St n s e H
  e30 : e 30 = .slice a l.length c
  e31 : e 31 = .int .i64 l.length
  e32 : e 32 = .int .i64 s
theorem readyIn_t {H0 : Heap} {F St : Nat → Nat} {n : Nat} {e : Fe} {H : Heap} {Q : Kx} (hl : Iv H0 a l) (hlen : l.length ≤ 256) (hord : ∀ s, s ≤ l.length → (ordAt l n s).length ≤ 100000) (h1 : 1 ≤ n) (h2 : n ≤ 11)
    (hc : RdI H0 a c l F St n 0 e H) (e30 : e 30 = .slice a l.length c) (e31 : e 31 = .int .i64 l.length) (e32 : e 32 = .int .i64 0)
    (hQ : ∀ e' H', RdI H0 a c l F St n l.length e' H' → Q (.exit 2) e' H') : WL S b73_1 e H Q := by
  refine l73_1 S (fun d e H => ∃ s : Nat, RdJ H0 a c l F St n d s e H) l.length ⟨0, by omega, by omega, hc, e30, e31, e32⟩ ?_
  rintro d e H ⟨s, hs, rfl, ⟨⟨cs, ov, hr⟩, e0, e3, e4, e5⟩, e30, e31, e32⟩
  by_cases h3 : s < l.length
  · obtain ⟨b, o, cs0, rw, rfl, hg0, hcs⟩ := hl (by omega)
    have hg := (hr.kp.2 b (lt_cells hg0)).trans hg0
    obtain ⟨x, hx⟩ : ∃ x, l[s]? = some x := ⟨_, List.getElem?_eq_getElem h3⟩
    have hcx := hcs s x hx
    have hax := at0_of hx
    have hw : IntKind.i64.wrap ((s : Int) + 1) = (s : Int) + 1 := wi (by omega) (by omega)
    have hos : ordAt l n (s + 1) = ordAt l n s ++ if at0 l s = n then [UInt8.ofNat s] else [] := ordAt_succ h1 s
    have hcs' : ∀ i, (if 1 ≤ i ∧ i < n then cntS l i l.length else if i = n then cntS l n (s + 1) else 0) = updN (fun i => if 1 ≤ i ∧ i < n then cntS l i l.length else if i = n then cntS l n s else 0) n (cntS l n (s + 1)) i := by
      intro i
      unfold updN
      by_cases e : i = n
      · subst e; simp
      · simp [e]
    by_cases g : x = n
    · have hu : IntKind.u8.wrap (s : Int) = ((UInt8.ofNat s).toNat : Int) := by
        have h1 : s % 256 = s := Nat.mod_eq_of_lt (by omega)
        have h2 : (UInt8.ofNat s).toNat = s := by simp [h1]
        rw [h2]; simp [IntKind.wrap, IntKind.signed, IntKind.bits]; omega
      obtain ⟨v', H1, H2, a1, a2, a3, a4⟩ := hr.one (UInt8.ofNat s) (hord s hs)
      have hcn := a4.c n (by omega)
      have hle := cntS_le l n s
      simp at hcn
      have hr2 := a4.setC (n := n) (by omega) (cntS l n (s + 1))
      have hst := a4.st (j := 13 + n) (by omega) ((cntS l n (s + 1) : Nat) : Int)
      have hgx := a4.hx
      have hc1 : cntS l n (s + 1) = cntS l n s + 1 := by simp [cntS, hax, g]
      have w2 : IntKind.i64.wrap ((cntS l n s : Int) + 1) = ((cntS l n (s + 1) : Nat) : Int) := by rw [wi (by omega) (by omega)]; omega
      have m13 : n < 13 := by omega
      have m13' : (n : Int) < 13 := by omega
      have hxx := hr.hx
      have hod := hr.od
      obtain ⟨HH, hHH⟩ : ∃ HH, HH = H2.put H0.next (.cells ((cs.set 39 v').set (13 + n) (.int .i64 ((cntS l n (s + 1) : Nat) : Int))) 127 true) := ⟨_, rfl⟩
      rw [← hHH] at hst hr2
      obtain ⟨u, hu'⟩ : ∃ u : UInt8, u = UInt8.ofNat s := ⟨_, rfl⟩
      rw [← hu'] at hu a1 a4 hr2
      unfold bv at a1
      obtain ⟨q, hq⟩ : ∃ q, q = u.toNat := ⟨_, rfl⟩
      rw [← hq] at hu a1
      simp only [s73_1]
      simp [e0, e3, e4, e5, e30, e31, e32, h3, addOff, hg, hcx, hw, hxx, hod, g, hu, m13, m13', a1, a2, a3, hgx, kFill, evPs, isTup, cellsL, wr, kRow, rd, hcn, w2, hst]
      refine ⟨l.length - (s + 1), by omega, s + 1, by omega, rfl, ⟨⟨(cs.set 39 v').set (13 + n) (.int .i64 ((cntS l n (s + 1) : Nat) : Int)), v', ?_⟩, by simp [e0], by simp [e3], by simp [e4], by simp [e5]⟩, by simp [e30], by simp [e31], by simp⟩
      rw [hos, if_pos (by rw [hax, g]), ← hu']
      have := funext hcs'
      rw [this]; exact hr2
    · have hc1 : cntS l n (s + 1) = cntS l n s := by simp [cntS, hax, g]
      simp [s73_1, e0, e3, e4, e5, e30, e31, e32, h3, addOff, hg, hcx, g, hw]
      refine ⟨l.length - (s + 1), by omega, s + 1, by omega, rfl, ⟨⟨cs, ov, ?_⟩, by simp [e0], by simp [e3], by simp [e4], by simp [e5]⟩, by simp [e30], by simp [e31], by simp⟩
      rw [hos, if_neg (by rw [hax]; exact g), List.append_nil, hc1]; exact hr
  · have h5 : s = l.length := by omega
    subst h5
    simp [s73_1, e31, e32]
    exact hQ _ _ ⟨⟨cs, ov, hr⟩, e0, e3, e4, e5⟩
theorem ordAt_bd {l : List Int} (hlen : l.length ≤ 256) : ∀ n, (ordAt l n 0).length ≤ 256 * n
  | 0 => by simp [ordAt]
  | 1 => by simp [ordAt]
  | n + 2 => by
    have h1 := ordAt_bd hlen (n + 1)
    have h2 := ordAt_le (l := l) n
    have h3 := cntS_le l (n + 1) l.length
    omega
theorem ordAt_bd2 {l : List Int} (hlen : l.length ≤ 256) {n s : Nat} (h1 : 1 ≤ n) (hs : s ≤ l.length) : (ordAt l n s).length ≤ 256 * n + 256 := by
  obtain ⟨m, rfl⟩ : ∃ m, n = m + 1 := ⟨n - 1, by omega⟩
  have h1 := ordAt_bd hlen (m + 1)
  have h2 := ordAt_len l m s
  have h3 := cntS_le l (m + 1) s
  omega
/-- where the codes of a length begin, how many there are, and where their symbols do, of the lengths below n -/
def Fq (l : List Int) (n i : Nat) : Nat := if 1 ≤ i ∧ i < n then (codeAt l i 0).toNat else 0
def Cq (l : List Int) (n i : Nat) : Nat := if 1 ≤ i ∧ i < n then cntS l i l.length else 0
def Sq (l : List Int) (n i : Nat) : Nat := if 1 ≤ i ∧ i < n then (ordAt l i 0).length else 0
theorem upd_q {f : Nat → Nat} {n : Nat} (h : 1 ≤ n) : updN (fun i => if 1 ≤ i ∧ i < n then f i else 0) n (f n) = fun i => if 1 ≤ i ∧ i < n + 1 then f i else 0 := by
  funext i
  unfold updN
  by_cases e : i = n
  · subst e; rw [if_pos rfl, if_pos (by omega)]
  · rw [if_neg e]
    show (if 1 ≤ i ∧ i < n then f i else 0) = _
    by_cases h2 : 1 ≤ i ∧ i < n
    · rw [if_pos h2, if_pos (by omega)]
    · rw [if_neg h2, if_neg (by omega)]
structure RdO (H0 : Heap) (a : Option Addr) (c : Nat) (l : List Int) (d n : Nat) (e : Fe) (H : Heap) : Prop where
  h1 : 1 ≤ n
  h2 : n ≤ 12
  h3 : d = 12 - n
  r : ∃ cs ov, Rc H0 H0.next (Fq l n) (Cq l n) (Sq l n) (ordAt l n 0) H cs ov
  e0 : e 0 = .slice a l.length c
  e3 : e 3 = .pointer (some ⟨H0.next, 0, none⟩)
  e4 : e 4 = .int .i64 (codeAt l n 0)
  e5 : e 5 = .int .i64 n
theorem ready_t (hl : Iv H a l) (hr : rightB l = true) : Wf S 73 [.slice a l.length c] H fun v H' => v = .pointer (some ⟨H.next, 0, none⟩) ∧ ∃ cs ov, Rc H H.next (Fq l 12) (Cq l 12) (Sq l 12) (ordAt l 12 0) H' cs ov := by
  have hlen := right_len hr
  have hall := right_all hr
  refine w73 rfl rfl _ ?_
  simp [s73, kFill, evPs, isTup, cellsL, wr]
  refine l73_0 S (fun d e H' => ∃ n, RdO H a c l d n e H') 11 ⟨1, by omega, by omega, by omega, ⟨_, .slice none 0 0, Kp.push (Nat.le_refl _), get_last, rfl, ?_, ?_, ?_, rfl, by simpa [ordAt, bvs] using Acc.nil⟩, by simp, by simp, by simp [codeAt_one], by simp⟩ ?_
  · intro n hn
    have : Fq l 1 n = 0 := by unfold Fq; rw [if_neg (by omega)]
    rw [this]
    have : n = 0 ∨ n = 1 ∨ n = 2 ∨ n = 3 ∨ n = 4 ∨ n = 5 ∨ n = 6 ∨ n = 7 ∨ n = 8 ∨ n = 9 ∨ n = 10 ∨ n = 11 ∨ n = 12 := by omega
    rcases this with rfl | rfl | rfl | rfl | rfl | rfl | rfl | rfl | rfl | rfl | rfl | rfl | rfl <;> rfl
  · intro n hn
    have : Cq l 1 n = 0 := by unfold Cq; rw [if_neg (by omega)]
    rw [this]
    have : n = 0 ∨ n = 1 ∨ n = 2 ∨ n = 3 ∨ n = 4 ∨ n = 5 ∨ n = 6 ∨ n = 7 ∨ n = 8 ∨ n = 9 ∨ n = 10 ∨ n = 11 ∨ n = 12 := by omega
    rcases this with rfl | rfl | rfl | rfl | rfl | rfl | rfl | rfl | rfl | rfl | rfl | rfl | rfl <;> rfl
  · intro n hn
    have : Sq l 1 n = 0 := by unfold Sq; rw [if_neg (by omega)]
    rw [this]
    have : n = 0 ∨ n = 1 ∨ n = 2 ∨ n = 3 ∨ n = 4 ∨ n = 5 ∨ n = 6 ∨ n = 7 ∨ n = 8 ∨ n = 9 ∨ n = 10 ∨ n = 11 ∨ n = 12 := by omega
    rcases this with rfl | rfl | rfl | rfl | rfl | rfl | rfl | rfl | rfl | rfl | rfl | rfl | rfl <;> rfl
  rintro d e H' ⟨n, h1, h2, rfl, ⟨cs, ov, hr0⟩, e0, e3, e4, e5⟩
  by_cases h3 : n ≤ 11
  · have h3' : (n : Int) ≤ 11 := by omega
    have hcb := code_bd hall hlen h1 h3 (Nat.zero_le l.length)
    obtain ⟨k, hk⟩ : ∃ k : Nat, codeAt l n 0 = (k : Int) := ⟨(codeAt l n 0).toNat, by omega⟩
    obtain ⟨a1, c1, rfl, _⟩ := hr0.a.len
    have r1 := hr0.setF (n := n) (by omega) (codeAt l n 0).toNat
    have s1 := hr0.st (j := n) (by omega) (codeAt l n 0)
    have ek : (((codeAt l n 0).toNat : Nat) : Int) = codeAt l n 0 := by omega
    have uF : updN (Fq l n) n (codeAt l n 0).toNat = Fq l (n + 1) := upd_q (f := fun i => (codeAt l i 0).toNat) h1
    rw [uF, ek] at r1
    obtain ⟨H1, hH1⟩ : ∃ H1, H1 = H'.put H.next (.cells (cs.set n (.int .i64 (codeAt l n 0))) 127 true) := ⟨_, rfl⟩
    rw [← hH1] at r1 s1
    obtain ⟨cs1, hcs1⟩ : ∃ cs1, cs1 = cs.set n (.int .i64 (codeAt l n 0)) := ⟨_, rfl⟩
    rw [← hcs1] at r1
    have r2 := r1.setS (n := n) (by omega) (ordAt l n 0).length
    have s2 := r1.st (j := 26 + n) (by omega) (((ordAt l n 0).length : Nat) : Int)
    have uS : updN (Sq l n) n (ordAt l n 0).length = Sq l (n + 1) := upd_q (f := fun i => (ordAt l i 0).length) h1
    rw [uS] at r2
    obtain ⟨H2, hH2⟩ : ∃ H2, H2 = H1.put H.next (.cells (cs1.set (26 + n) (.int .i64 (((ordAt l n 0).length : Nat) : Int))) 127 true) := ⟨_, rfl⟩
    rw [← hH2] at r2 s2
    have hC : Cq l n = fun i => if 1 ≤ i ∧ i < n then cntS l i l.length else if i = n then cntS l n 0 else 0 := by
      funext i
      unfold Cq
      by_cases e : i = n
      · subst e; simp [cntS]
      · simp [e]
    rw [hC] at r2
    have hxx := hr0.hx
    have hod := hr0.od
    have n13 : n < 13 := by omega
    have n13' : (n : Int) < 13 := by omega
    simp [s73_0, e0, e3, e4, e5, h3, h3', addOff, hxx, hod, n13, n13', s1, s2]
    refine readyIn_t (H0 := H) (a := a) (c := c) (l := l) (F := Fq l (n + 1)) (St := Sq l (n + 1)) (n := n) hl hlen (fun s hs => by have := ordAt_bd2 hlen h1 hs; omega) h1 h3 ⟨⟨_, _, r2⟩, by simp [e0], by simp [e3], by simp [e4], by simp [e5]⟩ (by simp) (by simp) (by simp) ?_
    rintro e' H3 ⟨⟨cs3, ov3, r3⟩, e0, e3, e4, e5⟩
    have hC3 : (fun i => if 1 ≤ i ∧ i < n then cntS l i l.length else if i = n then cntS l n l.length else 0) = Cq l (n + 1) := by
      funext i
      unfold Cq
      by_cases e : i = n
      · subst e; simp [h1]
      · by_cases h2 : 1 ≤ i ∧ i < n
        · rw [if_pos h2, if_pos (by omega)]
        · rw [if_neg h2, if_neg e, if_neg (by omega)]
    rw [hC3] at r3
    have hc3 := r3.c n (by omega)
    have hq3 : Cq l (n + 1) n = cntS l n l.length := by unfold Cq; rw [if_pos (by omega)]
    rw [hq3] at hc3
    have hx3 := r3.hx
    have hle := cntS_le l n l.length
    obtain ⟨m, rfl⟩ : ∃ m, n = m + 1 := ⟨n - 1, by omega⟩
    have hcc := codeAt_cnt l m l.length
    have hnx : codeAt l (m + 1 + 1) 0 = 2 * codeAt l (m + 1) l.length := by simp [codeAt]
    have hox : ordAt l (m + 1 + 1) 0 = ordAt l (m + 1) l.length := by simp [ordAt]
    have w1 : IntKind.i64.wrap (codeAt l (m + 1) 0 + (cntS l (m + 1) l.length : Nat)) = codeAt l (m + 1) 0 + (cntS l (m + 1) l.length : Nat) := wi (by omega) (by omega)
    have o1 : kBin .shl (.int .i64 (codeAt l (m + 1) 0 + (cntS l (m + 1) l.length : Nat))) (.int .u64 1) = some (.int .i64 (codeAt l (m + 1 + 1) 0)) := by
      rw [kb_shl, if_neg (by omega)]
      have hm : min (1 : Int).toNat IntKind.i64.bits = 1 := by decide
      rw [hm, wi (by omega) (by omega)]
      congr 2; omega
    have w2 : IntKind.i64.wrap (((m + 1 : Nat) : Int) + 1) = ((m + 1 + 1 : Nat) : Int) := by rw [wi (by omega) (by omega)]; omega
    generalize hn : m + 1 = n at *
    have n13'' : (n : Int) < 13 := by omega
    simp [e0, e3, e4, e5, addOff, hx3, n13, n13'', hc3, w1, o1, w2]
    refine ⟨12 - (n + 1), by omega, n + 1, by omega, by omega, rfl, ⟨cs3, ov3, ?_⟩, by simp [e0], by simp [e3], by simp, by simp⟩
    rw [hox]; exact r3
  · have h5 : n = 12 := by omega
    subst h5
    simp [s73_0, e3, e5]
    exact ⟨cs, ov, hr0⟩
end
end Go.Proofs.YtlboioplemlneaaGreat.K
