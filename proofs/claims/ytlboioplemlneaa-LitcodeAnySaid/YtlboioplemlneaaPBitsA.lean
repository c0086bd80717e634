/- Bits, one behind the other: what the program's reader takes. -/
import Derived.Test.YtlboioplemlneaaPCurA
import Derived.Test.YtlboioplemlneaaKBits
set_option maxRecDepth 100000
set_option maxHeartbeats 2000000
set_option linter.unusedVariables false
set_option linter.unusedSimpArgs false
namespace Go.Proofs.Ytlboioplemlneaa.K
open Go Go.Proofs
def BrB (sv : Value) (at_ : Nat) : Blk := .cells [sv, .int .i64 at_] 139 true
/-- bytes that a reader at b holds -/
def By (H : Heap) (b : Nat) (sv : Value) (s : Bytes) : Prop := ∃ a c, sv = .slice a s.length c ∧ (0 < s.length → ∃ bb, a = some ⟨bb, 0, none⟩ ∧ bb ≠ b ∧ H.get bb = .cells (bvs s) 5 true)
theorem By.put {H : Heap} {b : Nat} {sv : Value} {s : Bytes} {x : Blk} (h : By H b sv s) : By (H.put b x) b sv s := by
  obtain ⟨a, c, h1, h2⟩ := h
  refine ⟨a, c, h1, fun hp => ?_⟩
  obtain ⟨bb, q1, q2, q3⟩ := h2 hp
  exact ⟨bb, q1, q2, (get_put_ne q2).trans q3⟩
section
variable {H : Heap} {b : Nat} {sv : Value} {s : Bytes} {at_ : Nat}
theorem bright_t (n : Int) : Wf S 107 [.int .i64 n] H fun v H' => H' = H ∧ v = .bool (decide (0 ≤ n ∧ n ≤ 32)) := by
  refine w107 rfl rfl _ ?_
  by_cases h : 0 ≤ n
  · simp [s107, h]
  · simp [s107, h]
theorem Left_t (hg : H.get b = BrB sv at_) (hb : By H b sv s) (hs : s.length ≤ 1000000) (hat : at_ ≤ 8 * s.length) : Wf S 65 [.pointer (some ⟨b, 0, none⟩)] H fun v H' => H' = H ∧ v = .int .i64 ((8 * s.length - at_ : Nat) : Int) := by
  refine w65 rfl rfl _ ?_
  obtain ⟨a, c, rfl, _⟩ := hb
  have hg' : H.get b = .cells [.slice a s.length c, .int .i64 at_] 139 true := hg
  have h1 : IntKind.i64.wrap (8 * (s.length : Int)) = 8 * s.length := wi (by omega) (by omega)
  have h2 : IntKind.i64.wrap (8 * (s.length : Int) - at_) = ((8 * s.length - at_ : Nat) : Int) := by rw [wi (by omega) (by omega)]; omega
  simp [s65, kEq, addOff, hg', h1, h2]
theorem and7 (x : Nat) (h : x < 9223372036854775808) : kBin .and (.int .i64 x) (.int .i64 7) = some (.int .i64 ((x % 8 : Nat) : Int)) := by
  have := kb_andN (k := .i64) (a := x) (b := 7) (by show x < 2 ^ 64; omega) (by decide)
  have e : x &&& 7 = x % 8 := and_low x 3
  rw [e] at this
  have hw : IntKind.i64.wrap ((x % 8 : Nat) : Int) = ((x % 8 : Nat) : Int) := wi (by omega) (by omega)
  rw [hw] at this
  exact this
theorem Take_t (hg : H.get b = BrB sv at_) (hb : By H b sv s) (hs : s.length ≤ 1000000) (hat : at_ ≤ 8 * s.length) (n : Nat) (hn : n ≤ 32) :
    Wf S 66 [.pointer (some ⟨b, 0, none⟩), .int .i64 n] H fun v H' => if at_ + n ≤ 8 * s.length then v = .tuple #[.int .u32 (numB s at_ n : Nat), .bool true] ∧ H' = H.put b (BrB sv (at_ + n)) else v = .tuple #[.int .u32 0, .bool false] ∧ H' = H := by
  refine w66 rfl rfl _ _ ?_
  have hr1 : decide (0 ≤ (n : Int) ∧ (n : Int) ≤ 32) = true := by rw [decide_eq_true_eq]; omega
  simp [s66, kEq]
  refine (bright_t (n : Int)).mono ?_
  rintro v H1 ⟨rfl, rfl⟩
  rw [hr1]
  simp
  refine (Left_t hg hb hs hat).mono ?_
  rintro v H2 ⟨rfl, rfl⟩
  by_cases hfit : at_ + n ≤ 8 * s.length
  · have hlt : ¬ ((8 * s.length - at_ : Nat) : Int) < n := by omega
    have hlt2 : ¬ (8 * s.length - at_ < n) := by omega
    simp [hlt2, hfit]
    have hblt : b < H2.next := lt_cells hg
    refine l66_0 S (fun d e H' => ∃ g : Nat, g ≤ n ∧ d = n - g ∧ H' = H2.put b (BrB sv (at_ + g)) ∧ e 0 = .pointer (some ⟨b, 0, none⟩) ∧ e 1 = .int .i64 n ∧ e 6 = .int .u32 (numB s at_ g : Nat) ∧ e 7 = .int .i64 g) n ⟨0, by omega, by omega, (put_same hg).symm, by simp, by simp, by simp [numB], by simp⟩ ?_
    rintro d e H' ⟨g, hgn, rfl, rfl, e0, e1, e6, e7⟩
    by_cases h3 : g < n
    · obtain ⟨a, c, rfl, hbb⟩ := hb
      have hsl : 0 < s.length := by omega
      obtain ⟨bb, rfl, hne, hgb⟩ := hbb hsl
      have hgp : (H2.put b (BrB (.slice (some ⟨bb, 0, none⟩) s.length c) (at_ + g))).get b = .cells [.slice (some ⟨bb, 0, none⟩) s.length c, .int .i64 ((at_ + g : Nat) : Int)] 139 true := get_put_eq hblt
      have hgbb : (H2.put b (BrB (.slice (some ⟨bb, 0, none⟩) s.length c) (at_ + g))).get bb = .cells (bvs s) 5 true := (get_put_ne hne).trans hgb
      have hpn : (H2.put b (BrB (.slice (some ⟨bb, 0, none⟩) s.length c) (at_ + g))).next = H2.next := next_put
      generalize hHH : H2.put b (BrB (.slice (some ⟨bb, 0, none⟩) s.length c) (at_ + g)) = HH at *
      obtain ⟨p, hp⟩ : ∃ p, p = at_ + g := ⟨_, rfl⟩
      rw [← hp] at hgp
      obtain ⟨q, hq⟩ : ∃ q, q = p % 8 := ⟨_, rfl⟩
      obtain ⟨k, hk⟩ : ∃ k, k = min (n - g) (8 - q) := ⟨_, rfl⟩
      obtain ⟨x, hx⟩ : ∃ x, s[p / 8]? = some x := ⟨_, List.getElem?_eq_getElem (by omega)⟩
      have hxb := x.toNat_lt
      have hgd : s.getD (p / 8) 0 = x := by rw [List.getD_eq_getElem?_getD, hx]; rfl
      have hcx : (bvs s)[p / 8]? = some (.int .u8 x.toNat) := by simp [bvs, bv, hx]
      have ha7 := and7 p (by omega)
      rw [← hq] at ha7
      have hbyte := numB_byte s p k (by omega)
      rw [hgd, ← hq] at hbyte
      have hnl := numB_lt s at_ g
      have hnk := numB_lt s p k
      have hadd := numB_add s at_ g k
      rw [← hp] at hadd
      have hnkt := numB_lt s at_ (g + k)
      have hk1 : 1 ≤ k := by omega
      have p32 : 2 ^ (g + k) ≤ 2 ^ 32 := Nat.pow_le_pow_right (by omega) (by omega)
      have pg : 2 ^ g ≤ 2 ^ 32 := Nat.pow_le_pow_right (by omega) (by omega)
      have pk8 : 2 ^ k ≤ 2 ^ 8 := Nat.pow_le_pow_right (by omega) (by omega)
      have pk0 : 0 < 2 ^ k := Nat.pow_pos (by omega)
      have e32 : (2 : Nat) ^ 32 = 4294967296 := by decide
      have e8 : (2 : Nat) ^ 8 = 256 := by decide
      have w1 : IntKind.i64.wrap ((n : Int) - g) = (n : Int) - g := wi (by omega) (by omega)
      have w2 : IntKind.i64.wrap (8 - (q : Int)) = 8 - (q : Int) := wi (by omega) (by omega)
      have w3 : min ((n : Int) - g) (8 - (q : Int)) = (k : Int) := by omega
      have o1 : kBin .shr (.int .i64 (p : Int)) (.int .u64 3) = some (.int .i64 ((p / 8 : Nat) : Int)) := by
        rw [kb_shr, if_neg (by omega)]
        have hm : min (3 : Int).toNat IntKind.i64.bits = 3 := by decide
        rw [hm, Int.fdiv_eq_ediv_of_nonneg _ (by decide)]
        congr 2
      have hqb : min q IntKind.u8.bits = q := by
        have : IntKind.u8.bits = 8 := rfl
        omega
      have hdb : x.toNat / 2 ^ q ≤ x.toNat := Nat.div_le_self _ _
      have o2 : kBin .shr (.int .u8 (x.toNat : Int)) (.int .i64 (q : Int)) = some (.int .u8 ((x.toNat / 2 ^ q : Nat) : Int)) := by
        rw [kb_shr, if_neg (by omega), Int.toNat_natCast, hqb, Int.fdiv_eq_ediv_of_nonneg _ (by exact_mod_cast Nat.zero_le (2 ^ q))]
        congr 2
      have w4 : IntKind.u32.wrap ((x.toNat / 2 ^ q : Nat) : Int) = ((x.toNat / 2 ^ q : Nat) : Int) := wu32 (Int.natCast_nonneg _) (by omega)
      have hkb : min k IntKind.u32.bits = k := by
        have : IntKind.u32.bits = 32 := rfl
        omega
      have hgb : min g IntKind.u32.bits = g := by
        have : IntKind.u32.bits = 32 := rfl
        omega
      obtain ⟨P, hP⟩ : ∃ P, P = 2 ^ k := ⟨_, rfl⟩
      have o3 : kBin .shl (.int .u32 1) (.int .i64 (k : Int)) = some (.int .u32 (P : Int)) := by
        rw [kb_shl, if_neg (by omega), Int.toNat_natCast, hkb, Int.one_mul]
        have : ((2 : Int) ^ k) = ((P : Nat) : Int) := by rw [hP]; exact_mod_cast rfl
        rw [this, wu32 (by omega) (by omega)]
      have w5 : IntKind.u32.wrap ((P : Int) - 1) = ((P - 1 : Nat) : Int) := by rw [wu32 (by omega) (by omega)]; omega
      obtain ⟨D, hD⟩ : ∃ D, D = x.toNat / 2 ^ q := ⟨_, rfl⟩
      rw [← hD] at o2 w4 hbyte hdb
      obtain ⟨N, hN⟩ : ∃ N, N = numB s p k := ⟨_, rfl⟩
      have o4 : kBin .and (.int .u32 (D : Int)) (.int .u32 ((P - 1 : Nat) : Int)) = some (.int .u32 (N : Int)) := by
        rw [kb_andN (by show D < 2 ^ 32; omega) (by show P - 1 < 2 ^ 32; omega), hP, and_low, ← hbyte, ← hN, wu32 (by omega) (by omega)]
      have o5 : kBin .shl (.int .u32 (N : Int)) (.int .i64 (g : Int)) = some (.int .u32 ((N * 2 ^ g : Nat) : Int)) := by
        rw [kb_shl, if_neg (by omega), Int.toNat_natCast, hgb]
        have : (N : Int) * 2 ^ g = ((N * 2 ^ g : Nat) : Int) := by exact_mod_cast rfl
        rw [this, wu32 (by omega) (by rw [hN]; omega)]
      obtain ⟨M, hM⟩ : ∃ M, M = N * 2 ^ g := ⟨_, rfl⟩
      rw [← hM] at o5
      have hMt : M = numB s p k * 2 ^ g := by rw [hM, hN]
      rw [← hMt] at hadd
      have o6 : kBin .or (.int .u32 ((numB s at_ g : Nat) : Int)) (.int .u32 (M : Int)) = some (.int .u32 ((numB s at_ (g + k) : Nat) : Int)) := by
        rw [kb_orN (by show _ < 2 ^ 32; omega) (by show _ < 2 ^ 32; omega), hMt, or_high hnl, ← hMt, ← hadd, wu32 (by omega) (by omega)]
      have w6 : IntKind.i64.wrap ((g : Int) + k) = ((g + k : Nat) : Int) := by rw [wi (by omega) (by omega)]; omega
      have w7 : IntKind.i64.wrap ((p : Int) + k) = ((p + k : Nat) : Int) := by rw [wi (by omega) (by omega)]; omega
      have hidx : (p / 8) < s.length := by omega
      have hbl : b < HH.next := by omega
      have hst : kSt HH (.pointer (some ⟨b, 1, none⟩)) (.int .i64 ((p + k : Nat) : Int)) = some (HH.put b (BrB (.slice (some ⟨bb, 0, none⟩) s.length c) (p + k))) := by
        simp only [kSt, hgp]
        rfl
      have hiad : ∀ {K : Kv}, run S (.iad 1 (.c (.slice (some ⟨bb, 0, none⟩) s.length c)) (.c (.int .i64 ((p / 8 : Nat) : Int)))) [] HH K = K (.pointer (some ⟨bb, p / 8, none⟩)) HH := fun {K} => by
        rw [run_iad, if_pos (by omega)]; simp only [addOff, Int.toNat_natCast, Nat.mul_one, Nat.zero_add]
      obtain ⟨j, hj⟩ : ∃ j, j = p / 8 := ⟨_, rfl⟩
      rw [← hj] at o1 hcx hidx
      simp [s66_0, e0, e1, e6, e7, h3, addOff, hgp, hgbb, ha7, w1, w2, w3, w4, w5, w6, w7, o1, o2, o3, o4, o5, o6, hidx, hcx]
      rw [Int.natCast_add] at hst
      rw [hst]
      simp
      refine ⟨n - (g + k), by omega, g + k, by omega, rfl, ?_, rfl, by simp⟩
      rw [← hHH, put_put, hp, Nat.add_assoc]
    · have h5 : g = n := by omega
      subst h5
      simp [s66_0, e1, e6, e7, tup]
  · have hlt : ((8 * s.length - at_ : Nat) : Int) < n := by omega
    have hlt2 : 8 * s.length - at_ < n := by omega
    simp [hlt2, hfit, tup]
end
end Go.Proofs.Ytlboioplemlneaa.K
