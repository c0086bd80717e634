/- The sum of a text: the program's, and the document's. -/
import Derived.Test.YtjgpbhodbgjggaaGreatKF3
import Derived.Test.YtjgpbhodbgjggaaGreatPA
import Derived.Test.YtjgpbhodbgjggaaGreatKLowSh1
set_option maxRecDepth 100000
set_option maxHeartbeats 4000000
set_option linter.unusedVariables false
set_option linter.unusedSimpArgs false
namespace Go.Proofs.YtjgpbhodbgjggaaGreat.K
open Go Go.Proofs
theorem kb_xorN {k : IntKind} {a b : Nat} (ha : a < 2 ^ k.bits) (hb : b < 2 ^ k.bits) : kBin .xor (.int k a) (.int k b) = some (.int k (k.wrap ((a ^^^ b : Nat) : Int))) := by
  simp only [kBin, kInt, if_true]
  rw [BitVec.toNat_xor, ofInt_nat ha, ofInt_nat hb]
theorem wuN (n : Nat) : IntKind.u64.wrap (n : Int) = ((n % 18446744073709551616 : Nat) : Int) := by
  simp [IntKind.wrap, IntKind.signed, IntKind.bits]
theorem wuL {n : Nat} (h : n < 18446744073709551616) : IntKind.u64.wrap (n : Int) = (n : Int) := by
  rw [wuN, Nat.mod_eq_of_lt h]
theorem x64 {a b : Nat} (ha : a < 18446744073709551616) (hb : b < 18446744073709551616) : kBin .xor (.int .u64 (a : Int)) (.int .u64 (b : Int)) = some (.int .u64 ((a ^^^ b : Nat) : Int)) := by
  rw [kb_xorN (k := .u64) (show a < 2 ^ 64 from ha) (show b < 2 ^ 64 from hb), wuL (Nat.xor_lt_two_pow (n := 64) ha hb)]
theorem m64 {a b : Nat} : kBin .mul (.int .u64 (a : Int)) (.int .u64 (b : Int)) = some (.int .u64 ((a * b % 18446744073709551616 : Nat) : Int)) := by
  have : kBin .mul (.int .u64 (a : Int)) (.int .u64 (b : Int)) = some (.int .u64 (IntKind.u64.wrap ((a : Int) * b))) := rfl
  rw [this, ← Int.natCast_mul, wuN]
theorem a64 {a b : Nat} : kBin .add (.int .u64 (a : Int)) (.int .u64 (b : Int)) = some (.int .u64 (((a + b) % 18446744073709551616 : Nat) : Int)) := by
  have : kBin .add (.int .u64 (a : Int)) (.int .u64 (b : Int)) = some (.int .u64 (IntKind.u64.wrap ((a : Int) + b))) := rfl
  rw [this, ← Int.natCast_add, wuN]
def sumF : Nat := 11400714819323198485
def sumL : Nat := 13787848793156543929
def sum0 : Nat := 7640891576956012808
/-- one byte more -/
def sumB (h : Nat) (x : UInt8) : Nat := ((h ^^^ x.toNat) * sumF % 18446744073709551616) ^^^ ((h ^^^ x.toNat) * sumF % 18446744073709551616 / 536870912)
def sumE (h n : Nat) : Nat := ((h + n) % 18446744073709551616 * sumL % 18446744073709551616) ^^^ ((h + n) % 18446744073709551616 * sumL % 18446744073709551616 / 4294967296)
def sumN (t : Bytes) : Nat := sumE (t.foldl sumB sum0) t.length
theorem sumB_lt (h : Nat) (x : UInt8) : sumB h x < 18446744073709551616 := by
  have h1 := Nat.mod_lt ((h ^^^ x.toNat) * sumF) (show 0 < 18446744073709551616 by decide)
  exact Nat.xor_lt_two_pow (n := 64) h1 (Nat.lt_of_le_of_lt (Nat.div_le_self _ _) h1)
theorem sumE_lt (h n : Nat) : sumE h n < 18446744073709551616 := by
  have h1 := Nat.mod_lt ((h + n) % 18446744073709551616 * sumL) (show 0 < 18446744073709551616 by decide)
  exact Nat.xor_lt_two_pow (n := 64) h1 (Nat.lt_of_le_of_lt (Nat.div_le_self _ _) h1)
theorem sumS_lt (t : Bytes) : ∀ h, h < 18446744073709551616 → t.foldl sumB h < 18446744073709551616 := by
  induction t with
  | nil => exact fun h hh => hh
  | cons x t ih => exact fun h _ => ih _ (sumB_lt h x)
theorem sumN_lt (t : Bytes) : sumN t < 18446744073709551616 := sumE_lt _ _
theorem sh64 {a : Nat} {s : Nat} (hs : s < 64) (ha : a < 18446744073709551616) : kBin .shr (.int .u64 (a : Int)) (.int .u64 (s : Int)) = some (.int .u64 ((a / 2 ^ s : Nat) : Int)) := by
  rw [kb_shr, if_neg (by omega)]
  have hm : min (s : Int).toNat IntKind.u64.bits = s := by rw [Int.toNat_natCast]; exact Nat.min_eq_left (by show s ≤ 64; omega)
  rw [hm, Int.fdiv_eq_ediv_of_nonneg _ (by exact_mod_cast Nat.zero_le _)]
  congr 2
section
variable {H : Heap}
theorem sByte_t (h n : Nat) (hh : h < 18446744073709551616) (hn : n < 18446744073709551616) (x : UInt8) : Wf S 118 [.agg #[.int .u64 h, .int .u64 n], bv x] H fun v H' => Kp H.next H H' ∧ v = .agg #[.int .u64 (sumB h x), .int .u64 (((n + 1) % 18446744073709551616 : Nat) : Int)] := by
  refine w118 rfl rfl _ _ ?_
  have hx := x.toNat_lt
  have g1 : (H.push (.cells [.int .u64 h, .int .u64 n] 113 true)).get H.next = .cells [.int .u64 h, .int .u64 n] 113 true := get_last
  obtain ⟨H1, hH1⟩ : ∃ H1, H1 = H.push (.cells [.int .u64 h, .int .u64 n] 113 true) := ⟨_, rfl⟩
  rw [← hH1] at g1
  have hn1 : H1.next = H.next + 1 := by rw [hH1]; simp
  obtain ⟨H2, hH2⟩ : ∃ H2, H2 = H1.push (.cells [.int .u64 0, .int .u64 0] 113 true) := ⟨_, rfl⟩
  have g2 : H2.get H.next = .cells [.int .u64 h, .int .u64 n] 113 true := by rw [hH2, get_old (by omega)]; exact g1
  have g3 : H2.get H1.next = .cells [.int .u64 0, .int .u64 0] 113 true := by rw [hH2]; exact get_last
  have hn2 : H2.next = H.next + 2 := by rw [hH2]; simp [hn1]
  have e1 := x64 hh (b := x.toNat) (by omega)
  have e2 := m64 (a := h ^^^ x.toNat) (b := 11400714819323198485)
  have h1 := Nat.mod_lt ((h ^^^ x.toNat) * 11400714819323198485) (show 0 < 18446744073709551616 by decide)
  obtain ⟨m, hm⟩ : ∃ m, m = (h ^^^ x.toNat) * 11400714819323198485 % 18446744073709551616 := ⟨_, rfl⟩
  rw [← hm] at e2 h1
  have e3 : kBin .shr (.int .u64 (m : Int)) (.int .u64 29) = some (.int .u64 ((m / 536870912 : Nat) : Int)) := sh64 (a := m) (s := 29) (by omega) h1
  have e4 := x64 h1 (b := m / 536870912) (Nat.lt_of_le_of_lt (Nat.div_le_self _ _) h1)
  obtain ⟨q, hq⟩ : ∃ q, q = m / 536870912 := ⟨_, rfl⟩
  rw [← hq] at e3 e4
  have ew : IntKind.u64.wrap (x.toNat : Int) = x.toNat := wuL (by omega)
  have ew2 : IntKind.u64.wrap (((h ^^^ x.toNat : Nat) : Int) * 11400714819323198485) = (m : Int) := by rw [hm, ← wuN]; congr 1
  have ew3 : IntKind.u64.wrap ((n : Int) + 1) = (((n + 1) % 18446744073709551616 : Nat) : Int) := by rw [← wuN]; congr 1
  obtain ⟨N1, hN1⟩ : ∃ N1, N1 = (n + 1) % 18446744073709551616 := ⟨_, rfl⟩
  rw [← hN1] at ew3 ⊢
  have hsB : sumB h x = m ^^^ q := by rw [hq, hm]; rfl
  rw [hsB]
  obtain ⟨B1, hB1⟩ : ∃ B1, B1 = m ^^^ q := ⟨_, rfl⟩
  rw [← hB1] at e4 ⊢
  obtain ⟨H3, hH3⟩ : ∃ H3, H3 = H2.put H1.next (.cells [.int .u64 B1, .int .u64 N1] 113 true) := ⟨_, rfl⟩
  have g4 : H3.get H1.next = .cells [.int .u64 B1, .int .u64 N1] 113 true := by rw [hH3]; exact get_put_eq (by omega)
  simp [-kLd_p, s118, bv, isTup, cellsL, addOff, ← hH1, ← hH2]
  simp [g2, e1, ew2, ew, e3, e4, ew3, kFill, evPs, isTup, cellsL, wr, kStn, g3, ← hH3, kLdn, g4, rd, tup]
  refine ⟨by rw [hH3, next_put]; omega, fun k hk => ?_⟩
  rw [hH3, get_put_ne (by omega), hH2, get_old (by omega), hH1, get_old hk]
theorem sAdd_t (h n : Nat) (hh : h < 18446744073709551616) (hn : n < 18446744073709551616) (t : Bytes) (ht : t.length ≤ 1000000) : Wf S 79 [.agg #[.int .u64 h, .int .u64 n], .string (ofL t)] H fun v H' => Kp H.next H H' ∧ v = .agg #[.int .u64 ((t.foldl sumB h : Nat) : Int), .int .u64 (((n + t.length) % 18446744073709551616 : Nat) : Int)] := by
  refine w79 rfl rfl _ _ ?_
  obtain ⟨NN, hNN⟩ : ∃ NN, NN = (n + t.length) % 18446744073709551616 := ⟨_, rfl⟩
  rw [← hNN]
  have g1 : (H.push (.cells [.int .u64 h, .int .u64 n] 113 true)).get H.next = .cells [.int .u64 h, .int .u64 n] 113 true := get_last
  obtain ⟨H1, hH1⟩ : ∃ H1, H1 = H.push (.cells [.int .u64 h, .int .u64 n] 113 true) := ⟨_, rfl⟩
  rw [← hH1] at g1
  have hn1 : H1.next = H.next + 1 := by rw [hH1]; simp
  obtain ⟨H2, hH2⟩ : ∃ H2, H2 = H1.push (.cells [.int .u64 0, .int .u64 0] 113 true) := ⟨_, rfl⟩
  have g2 : H2.get H.next = .cells [.int .u64 h, .int .u64 n] 113 true := by rw [hH2, get_old (by omega)]; exact g1
  have g3 : H2.get H1.next = .cells [.int .u64 0, .int .u64 0] 113 true := by rw [hH2]; exact get_last
  have hn2 : H2.next = H.next + 2 := by rw [hH2]; simp [hn1]
  have hk2 : Kp H.next H H2 := by rw [hH2, hH1]; exact (Kp.push (Nat.le_refl _)).trans (Kp.push (by simp))
  simp [-kLd_p, s79, isTup, cellsL, addOff, ofL_size, ← hH1, ← hH2]
  refine l79_0 S (fun d e H' => ∃ (i a : Nat), i ≤ t.length ∧ d = t.length - i ∧ a < 18446744073709551616 ∧ t.foldl sumB h = (t.drop i).foldl sumB a ∧ Kp H.next H H' ∧ H2.next ≤ H'.next ∧ H'.get H.next = .cells [.int .u64 a, .int .u64 (((n + i) % 18446744073709551616 : Nat) : Int)] 113 true ∧ H'.get H1.next = .cells [.int .u64 0, .int .u64 0] 113 true ∧ e 1 = .string (ofL t) ∧ e 2 = .pointer (some ⟨H.next, 0, none⟩) ∧ e 4 = .pointer (some ⟨H1.next, 0, none⟩) ∧ e 7 = .int .i64 t.length ∧ e 8 = .int .i64 i) t.length ⟨0, h, by omega, by omega, hh, rfl, hk2, Nat.le_refl _, by rw [Nat.add_zero, Nat.mod_eq_of_lt hn]; exact g2, g3, by simp, by simp, by simp, by simp, by simp⟩ ?_
  rintro d e H' ⟨i, a, hi, rfl, ha, hF, hk, hnx, q1, q2, e1, e2, e4, e7, e8⟩
  by_cases h3 : i < t.length
  · have h3' : (i : Int) < t.length := by omega
    obtain ⟨x, hx⟩ : ∃ x, t[i]? = some x := ⟨_, List.getElem?_eq_getElem h3⟩
    obtain ⟨u1, u2⟩ := List.getElem?_eq_some_iff.1 hx
    have hdr : t.drop i = x :: t.drop (i + 1) := by rw [List.drop_eq_getElem_cons u1, u2]
    have w1 : IntKind.i64.wrap ((i : Int) + 1) = (i : Int) + 1 := wi (by omega) (by omega)
    obtain ⟨nn, hnn⟩ : ∃ nn, nn = (n + i) % 18446744073709551616 := ⟨_, rfl⟩
    rw [← hnn] at q1
    have hnn2 : (nn + 1) % 18446744073709551616 = (n + (i + 1)) % 18446744073709551616 := by rw [hnn]; omega
    have hnl : nn < 18446744073709551616 := by rw [hnn]; exact Nat.mod_lt _ (by decide)
    have hat := fun K => s_at (S := S) (e := []) (K := K) (H := H') (k := .i64) hx
    simp [s79_0, e1, e2, e4, e7, e8, h3, h3', kLdn, q1, rd, hat]
    refine (sByte_t a nn ha hnl x).mono ?_
    rintro v H3 ⟨hk3, rfl⟩
    have r1 : H3.get H.next = .cells [.int .u64 a, .int .u64 nn] 113 true := by rw [hk3.2 _ (by omega)]; exact q1
    have r2 : H3.get H1.next = .cells [.int .u64 0, .int .u64 0] 113 true := by rw [hk3.2 _ (by omega)]; exact q2
    rw [hnn2]
    obtain ⟨n2, hn2e⟩ : ∃ n2, n2 = (n + (i + 1)) % 18446744073709551616 := ⟨_, rfl⟩
    rw [← hn2e]
    have hn3 := hk3.1
    simp [kStn, r1, wr, w1, e8, e1, e2, e4, e7]
    refine ⟨t.length - (i + 1), by omega, i + 1, by omega, rfl, sumB a x, sumB_lt a x, ?_, ?_, ?_, ?_, ?_, by omega⟩
    · rw [hF, hdr]; rfl
    · exact (hk.trans (hk3.mono (by omega))).trans (Kp.put (Nat.le_refl _))
    · rw [next_put]; omega
    · rw [get_put_eq (by omega), hn2e]; rfl
    · rw [get_put_ne (by omega)]; exact r2
  · have hin : i = t.length := by omega
    subst hin
    rw [List.drop_eq_nil_of_le (Nat.le_refl _)] at hF
    rw [hF]
    rw [← hNN] at q1
    obtain ⟨H4, hH4⟩ : ∃ H4, H4 = H'.put H1.next (.cells [.int .u64 a, .int .u64 NN] 113 true) := ⟨_, rfl⟩
    have g4 : H4.get H1.next = .cells [.int .u64 a, .int .u64 NN] 113 true := by rw [hH4]; exact get_put_eq (by omega)
    simp [s79_0, e2, e4, e7, e8, kLdn, q1, rd, kStn, q2, wr, ← hH4, g4, tup]
    rw [hH4]
    exact hk.trans (Kp.put (by omega))
theorem sNew_t : Wf S 78 [] H fun v H' => Kp H.next H H' ∧ v = .agg #[.int .u64 sum0, .int .u64 (0 : Nat)] := by
  refine w78 rfl rfl ?_
  have g1 : (H.push (.cells [.int .u64 0, .int .u64 0] 113 true)).get H.next = .cells [.int .u64 0, .int .u64 0] 113 true := get_last
  obtain ⟨H1, hH1⟩ : ∃ H1, H1 = H.push (.cells [.int .u64 0, .int .u64 0] 113 true) := ⟨_, rfl⟩
  rw [← hH1] at g1
  have hn1 : H1.next = H.next + 1 := by rw [hH1]; simp
  obtain ⟨H2, hH2⟩ : ∃ H2, H2 = H1.put H.next (.cells [.int .u64 7640891576956012808, .int .u64 0] 113 true) := ⟨_, rfl⟩
  have g2 : H2.get H.next = .cells [.int .u64 7640891576956012808, .int .u64 0] 113 true := by rw [hH2]; exact get_put_eq (by omega)
  simp [s78, ← hH1, kFill, evPs, isTup, cellsL, wr, Env.ev, kStn, g1, ← hH2, kLdn, g2, rd, tup]
  refine ⟨?_, rfl⟩
  rw [hH2, hH1]
  exact (Kp.push (Nat.le_refl _)).trans (Kp.put (Nat.le_refl _))
theorem sSum_t (h n : Nat) (hh : h < 18446744073709551616) (hn : n < 18446744073709551616) : Wf S 80 [.agg #[.int .u64 h, .int .u64 n]] H fun v H' => Kp H.next H H' ∧ v = .int .u64 (sumE h n) := by
  refine w80 rfl rfl _ ?_
  have g1 : (H.push (.cells [.int .u64 h, .int .u64 n] 113 true)).get H.next = .cells [.int .u64 h, .int .u64 n] 113 true := get_last
  have hk1 : Kp H.next H (H.push (.cells [.int .u64 h, .int .u64 n] 113 true)) := Kp.push (Nat.le_refl _)
  obtain ⟨H1, hH1⟩ : ∃ H1, H1 = H.push (.cells [.int .u64 h, .int .u64 n] 113 true) := ⟨_, rfl⟩
  rw [← hH1] at g1 hk1
  have h1 := Nat.mod_lt ((h + n) % 18446744073709551616 * 13787848793156543929) (show 0 < 18446744073709551616 by decide)
  obtain ⟨m, hm⟩ : ∃ m, m = (h + n) % 18446744073709551616 * 13787848793156543929 % 18446744073709551616 := ⟨_, rfl⟩
  rw [← hm] at h1
  have ew1 : IntKind.u64.wrap ((h : Int) + n) = (((h + n) % 18446744073709551616 : Nat) : Int) := by rw [← wuN]; congr 1
  have ew2 : IntKind.u64.wrap ((((h + n) % 18446744073709551616 : Nat) : Int) * 13787848793156543929) = (m : Int) := by rw [hm, ← wuN]; congr 1
  have e3 : kBin .shr (.int .u64 (m : Int)) (.int .u64 32) = some (.int .u64 ((m / 4294967296 : Nat) : Int)) := sh64 (a := m) (s := 32) (by omega) h1
  have e4 := x64 h1 (b := m / 4294967296) (Nat.lt_of_le_of_lt (Nat.div_le_self _ _) h1)
  obtain ⟨q, hq⟩ : ∃ q, q = m / 4294967296 := ⟨_, rfl⟩
  rw [← hq] at e3 e4
  have hsE : sumE h n = m ^^^ q := by rw [hq, hm]; rfl
  rw [hsE]
  obtain ⟨B1, hB1⟩ : ∃ B1, B1 = m ^^^ q := ⟨_, rfl⟩
  rw [← hB1] at e4 ⊢
  obtain ⟨hn', hhn⟩ : ∃ hn', hn' = (h + n) % 18446744073709551616 := ⟨_, rfl⟩
  rw [← hhn] at ew1 ew2
  simp [-kLd_p, s80, isTup, cellsL, addOff, ← hH1]
  simp [g1, ew1, ew2, e3, e4]
  exact hk1
theorem sumOf_t (t : Bytes) (ht : t.length ≤ 1000000) : Wf S 48 [.string (ofL t)] H fun v H' => Kp H.next H H' ∧ v = .int .u64 (sumN t) := by
  refine w48 rfl rfl _ ?_
  simp [s48]
  refine sNew_t.mono ?_
  rintro v H1 ⟨hk1, rfl⟩
  simp
  obtain ⟨NN, hNN⟩ : ∃ NN, NN = (0 + t.length) % 18446744073709551616 := ⟨_, rfl⟩
  have hadd := sAdd_t (H := H1) sum0 0 (show sum0 < 18446744073709551616 by decide) (show 0 < 18446744073709551616 by decide) t ht
  rw [← hNN] at hadd
  refine hadd.mono ?_
  rintro v H2 ⟨hk2, rfl⟩
  try simp
  refine (sSum_t _ NN (sumS_lt t sum0 (show sum0 < 18446744073709551616 by decide)) (by rw [hNN]; exact Nat.mod_lt _ (by decide))).mono ?_
  rintro v H3 ⟨hk3, rfl⟩
  have n1 := hk1.1
  have n2 := hk2.1
  refine ⟨(hk1.trans (hk2.mono n1)).trans (hk3.mono (by omega)), ?_⟩
  rw [hNN, Nat.zero_add, Nat.mod_eq_of_lt (by omega)]
  rfl
end
end Go.Proofs.YtjgpbhodbgjggaaGreat.K
/- The sum of a text: the document's. -/
set_option maxRecDepth 100000
set_option maxHeartbeats 4000000
set_option linter.unusedVariables false
set_option linter.unusedSimpArgs false
namespace Go.Proofs.YtjgpbhodbgjggaaGreat.K
open Go Go.Proofs
theorem q64 {a c : Nat} (hc : 0 < c) (ha : a < 18446744073709551616) : kBin .quo (.int .u64 (a : Int)) (.int .u64 (c : Int)) = some (.int .u64 ((a / c : Nat) : Int)) := by
  have h0 : ¬ (c : Int) = 0 := by omega
  have : kBin .quo (.int .u64 (a : Int)) (.int .u64 (c : Int)) = if (c : Int) = 0 then none else some (.int .u64 (IntKind.u64.wrap (Int.tdiv (a : Int) c))) := rfl
  rw [this, if_neg h0, show Int.tdiv (a : Int) (c : Int) = ((a / c : Nat) : Int) from rfl, wuL (Nat.lt_of_le_of_lt (Nat.div_le_self _ _) ha)]
section
variable {H : Heap}
theorem rSum_t (t : Bytes) (ht : t.length ≤ 1000000) : Wf S 30 [.string (ofL t)] H fun v H' => H' = H ∧ v = .int .u64 (sumN t) := by
  refine w30 rfl rfl _ ?_
  simp [s30]
  refine l30_0 S (fun d e H' => ∃ (i a : Nat), i ≤ t.length ∧ d = t.length - i ∧ a < 18446744073709551616 ∧ t.foldl sumB sum0 = (t.drop i).foldl sumB a ∧ H' = H ∧ e 0 = .string (ofL t) ∧ e 3 = .int .u64 a ∧ e 4 = .int .i64 i) t.length ⟨0, sum0, by omega, by omega, by decide, rfl, rfl, by simp, by simp; rfl, by simp⟩ ?_
  rintro d e H' ⟨i, a, hi, rfl, ha, hF, rfl, e0, e3, e4⟩
  by_cases h3 : i < t.length
  · have h3' : (i : Int) < t.length := by omega
    obtain ⟨x, hx⟩ : ∃ x, t[i]? = some x := ⟨_, List.getElem?_eq_getElem h3⟩
    obtain ⟨u1, u2⟩ := List.getElem?_eq_some_iff.1 hx
    have hdr : t.drop i = x :: t.drop (i + 1) := by rw [List.drop_eq_getElem_cons u1, u2]
    have hxl := x.toNat_lt
    have w1 : IntKind.i64.wrap ((i : Int) + 1) = (i : Int) + 1 := wi (by omega) (by omega)
    have hat := fun K => s_at (S := S) (e := []) (K := K) (H := H') (k := .i64) hx
    have f1 := x64 ha (b := x.toNat) (by omega)
    have h1 := Nat.mod_lt ((a ^^^ x.toNat) * 11400714819323198485) (show 0 < 18446744073709551616 by decide)
    obtain ⟨m, hm⟩ : ∃ m, m = (a ^^^ x.toNat) * 11400714819323198485 % 18446744073709551616 := ⟨_, rfl⟩
    rw [← hm] at h1
    have f3 : kBin .quo (.int .u64 (m : Int)) (.int .u64 536870912) = some (.int .u64 ((m / 536870912 : Nat) : Int)) := q64 (c := 536870912) (by decide) h1
    have f4 := x64 h1 (b := m / 536870912) (Nat.lt_of_le_of_lt (Nat.div_le_self _ _) h1)
    obtain ⟨q, hq⟩ : ∃ q, q = m / 536870912 := ⟨_, rfl⟩
    rw [← hq] at f3 f4
    have ew : IntKind.u64.wrap (x.toNat : Int) = x.toNat := wuL (by omega)
    have ew2 : IntKind.u64.wrap (((a ^^^ x.toNat : Nat) : Int) * 11400714819323198485) = (m : Int) := by rw [hm, ← wuN]; congr 1
    have hsB : sumB a x = m ^^^ q := by rw [hq, hm]; rfl
    simp [s30_0, e0, e3, e4, ofL_size, h3, h3', hat, bv, ew, f1, ew2, f3, f4, w1]
    exact ⟨t.length - (i + 1), by omega, i + 1, by omega, rfl, m ^^^ q, by rw [← hsB]; exact sumB_lt a x, by rw [hF, hdr, ← hsB]; rfl, rfl, by omega⟩
  · have hin : i = t.length := by omega
    subst hin
    rw [List.drop_eq_nil_of_le (Nat.le_refl _)] at hF
    have h1 := Nat.mod_lt ((a + t.length) % 18446744073709551616 * 13787848793156543929) (show 0 < 18446744073709551616 by decide)
    obtain ⟨m, hm⟩ : ∃ m, m = (a + t.length) % 18446744073709551616 * 13787848793156543929 % 18446744073709551616 := ⟨_, rfl⟩
    rw [← hm] at h1
    have ew0 : IntKind.u64.wrap (t.length : Int) = t.length := wuL (by omega)
    have ew1 : IntKind.u64.wrap ((a : Int) + t.length) = (((a + t.length) % 18446744073709551616 : Nat) : Int) := by rw [← wuN]; congr 1
    have ew2 : IntKind.u64.wrap ((((a + t.length) % 18446744073709551616 : Nat) : Int) * 13787848793156543929) = (m : Int) := by rw [hm, ← wuN]; congr 1
    have f3 : kBin .quo (.int .u64 (m : Int)) (.int .u64 4294967296) = some (.int .u64 ((m / 4294967296 : Nat) : Int)) := q64 (c := 4294967296) (by decide) h1
    have f4 := x64 h1 (b := m / 4294967296) (Nat.lt_of_le_of_lt (Nat.div_le_self _ _) h1)
    obtain ⟨q, hq⟩ : ∃ q, q = m / 4294967296 := ⟨_, rfl⟩
    rw [← hq] at f3 f4
    have hsE : sumN t = m ^^^ q := by unfold sumN; rw [hF, hq, hm]; rfl
    rw [hsE]
    obtain ⟨N1, hN1⟩ : ∃ N1, N1 = (a + t.length) % 18446744073709551616 := ⟨_, rfl⟩
    rw [← hN1] at ew1 ew2
    simp [s30_0, e0, e3, e4, ofL_size, ew0, ew1, ew2, f3, f4]
end
end Go.Proofs.YtjgpbhodbgjggaaGreat.K
/- Pieces put together: the program's walk, and the law. -/
set_option maxRecDepth 100000
set_option maxHeartbeats 4000000
set_option linter.unusedVariables false
set_option linter.unusedSimpArgs false
namespace Go.Proofs.YtjgpbhodbgjggaaGreat.K
open Go Go.Proofs
/-- several parts more, by append -/
theorem Acc.appM {t z N M n m bytes : Nat} {H : Heap} {v : Value} {cs new : List Value} (h : Acc t z N M H v n cs) (hN : N ≤ H.next) (hM : M ≤ H.next) (hm : 0 < m) (hz : new.length = m * z) (hn : (n + m) * bytes ≤ roomMax ∧ n + m ≤ roomMax) :
    ∃ v' H', kApp H t z bytes v m new = some (v', H') ∧ Acc t z N H'.next H' v' (n + m) (cs ++ new) ∧ H.next < H'.next ∧ ∀ k, k < H.next → k < N ∨ M ≤ k → H'.get k = H.get k := by
  have hm0 : ¬ m = 0 := by omega
  rcases h with ⟨rfl, rfl, rfl⟩ | ⟨b, c, h1, h2, rfl, hc, h3, h4⟩
  · have h5 : m * bytes ≤ roomMax ∧ m ≤ roomMax := by simpa using hn
    refine ⟨_, _, by simp [kApp, h5.1, h5.2, hm0]; exact ⟨rfl, rfl⟩, ?_, by simp, fun k hk _ => get_old hk⟩
    refine .inr ⟨H.next, capx, by omega, by simp, by simp, .inl rfl, ?_, by simp [hz]⟩
    simp
  · have hb := lt_cells h3
    have hrd : rd cs 0 (n * z) = some cs := by
      unfold rd; rw [if_pos (by omega), List.drop_zero, List.take_of_length_le (by omega)]
    rcases hc with rfl | rfl
    · refine ⟨_, _, by simp only [kApp, h3, hn, and_self, if_true, hm0, if_false, hrd, Option.map_some]; exact rfl, ?_, ?_, ?_⟩
      · refine .inr ⟨H.next, capx, by omega, by simp [next_put], rfl, .inl rfl, ?_, by simp [h4, hz, Nat.add_mul]⟩
        have := get_last (H := H.put b .dead) (b := .cells (cs ++ new) t true)
        rw [next_put] at this; exact this
      · simp [next_put]
      · intro k hk hkN
        rw [get_old (by rw [next_put]; omega), get_put_ne (by omega)]
    · have hx : ¬ c = capx := by
        have : roomMax < capx := by decide
        omega
      have hx2 : ¬ c + m ≤ c := by omega
      refine ⟨_, _, by simp only [kApp, h3, hn, and_self, if_true, hx, hx2, if_false, hrd, Option.map_some]; exact rfl, ?_, ?_, ?_⟩
      · refine .inr ⟨H.next, capx, by omega, by simp, rfl, .inl rfl, get_last, by simp [h4, hz, Nat.add_mul]⟩
      · simp
      · intro k hk hkN
        rw [get_old hk]
theorem oneC_acm {t z N M n : Nat} {H : Heap} {v : Value} {cs : List Value} (h : Acc t z N M H v n cs) : oneC v = true := by
  obtain ⟨a, c, rfl, _⟩ := h.len
  rfl
theorem joApp {t z N M n m bytes : Nat} {H : Heap} {v : Value} {cs new : List Value} (h : Acc t z N M H v n cs) (hM : M ≤ H.next) (hN : N ≤ H.next) (hz : new.length = m * z) (hn : (n + m) * bytes ≤ roomMax ∧ n + m ≤ roomMax) :
    ∃ v' H', kApp H t z bytes v m new = some (v', H') ∧ Acc t z N H'.next H' v' (n + m) (cs ++ new) ∧ H.next ≤ H'.next ∧ ∀ k, k < N → H'.get k = H.get k := by
  by_cases h0 : m = 0
  · subst h0
    have hnil : new = [] := List.eq_nil_of_length_eq_zero (by omega)
    subst hnil
    refine ⟨v, H, ?_, by simpa using h.mono hM, Nat.le_refl _, fun _ _ => rfl⟩
    rcases h with ⟨rfl, rfl, rfl⟩ | ⟨b, c, h1, h2, rfl, hc, hg, hl⟩
    · simp [kApp]
    · have h5 : n * bytes ≤ roomMax ∧ n ≤ roomMax := by simpa using hn
      rcases hc with rfl | rfl
      · simp only [kApp, hg, Nat.add_zero, h5, and_self, if_true]
      · have hx : ¬ c = capx := by
          have : roomMax < capx := by decide
          omega
        simp only [kApp, hg, Nat.add_zero, h5, and_self, if_true, hx, if_false, Nat.le_refl]
  · obtain ⟨v', H', e1, e2, e3, e4⟩ := h.appM (bytes := bytes) hN hM (by omega) hz hn
    exact ⟨v', H', e1, e2, by omega, fun k hk => e4 k (by omega) (.inl hk)⟩
structure Pu where
  at_ : Int
  s : Bytes
def puV (p : Pu) : List Value := [.int .i64 p.at_, .string (ofL p.s)]
theorem puV_len (p : Pu) : (puV p).length = 2 := rfl
/-- a joiner at J: so many bytes, their sum, what there is -/
def Jo (H : Heap) (J k sm : Nat) (all : Bytes) : Prop := ∃ sv, H.get J = .cells [.int .i64 k, .int .u64 sm, sv] 97 true ∧ Acc 5 1 (J + 1) H.next H sv all.length (bvs all)
def pj (k : Nat) (all : Bytes) (p : Pu) : Nat × Bytes := if p.at_ ≠ all.length then (7, all) else if k < all.length + p.s.length then (5, all) else (0, all ++ p.s)
section
variable {H : Heap} {J k sm : Nat} {all : Bytes}
theorem jSize_t (h : Jo H J k sm all) : Wf S 28 [.pointer (some ⟨J, 0, none⟩)] H fun v H' => H' = H ∧ v = .int .i64 all.length := by
  refine w28 rfl rfl _ ?_
  obtain ⟨sv, hg, hA⟩ := h
  obtain ⟨a, c, rfl, _⟩ := hA.len
  simp [s28, kEq, addOff, hg]
theorem jPut_t (h : Jo H J k sm all) (p : Pu) (hk : k ≤ 1048576) (ha : all.length ≤ k) (hl : all.length ≤ 100000) (hs : p.s.length ≤ 100000) : Wf S 27 [.pointer (some ⟨J, 0, none⟩), .int .i64 p.at_, .string (ofL p.s)] H fun v H' => v = .int .i64 ((pj k all p).1 : Nat) ∧ Jo H' J k sm (pj k all p).2 ∧ Kp J H H' := by
  refine w27 rfl rfl _ _ _ ?_
  have h0 := h
  obtain ⟨sv, hg, hA⟩ := h
  obtain ⟨a, c, rfl, _⟩ := hA.len
  have hlt := lt_cells hg
  unfold pj
  by_cases h1 : p.at_ = all.length
  · have w1 : IntKind.i64.wrap ((k : Int) - all.length) = (k : Int) - all.length := wi (by omega) (by omega)
    by_cases h2 : k < all.length + p.s.length
    · have h2' : (k : Int) - all.length < p.s.length := by omega
      simp [s27, kEq, addOff, hg, h1, ofL_size, w1, h2, h2']
      exact ⟨h0, Kp.refl _ _⟩
    · have h2' : ¬ (k : Int) - all.length < p.s.length := by omega
      obtain ⟨v', H1, e1, hA1, hn1, hk1⟩ := joApp (m := p.s.length) (bytes := 1) (new := bvs p.s) hA (Nat.le_refl _) (by omega) (by simp [bvs]) (by unfold roomMax; omega)
      have hap : kApp H 5 1 1 (.slice a all.length c) (ofL p.s).size (byteVals (ofL p.s)) = some (v', H1) := by rw [ofL_size, byteVals_ofL]; exact e1
      have hg1 := (hk1 J (by omega)).trans hg
      have ho := oneC_acm hA1
      obtain ⟨H2, hH2⟩ : ∃ H2, H2 = H1.put J (.cells [.int .i64 k, .int .u64 sm, v'] 97 true) := ⟨_, rfl⟩
      have s2 : kSt H1 (.pointer (some ⟨J, 2, none⟩)) v' = some H2 := by rw [hH2]; simp [kSt, hg1, ho]
      simp [s27, kEq, addOff, hg, h1, ofL_size, w1, h2, h2', hap, hg1, s2]
      simp only [ofL_size] at hap
      simp [hap, hg1, s2, addOff]
      refine ⟨⟨v', by rw [hH2]; exact get_put_eq (by omega), ?_⟩, ⟨by rw [hH2, next_put]; omega, fun k hk => by rw [hH2, get_put_ne (by omega)]; exact hk1 k (by omega)⟩⟩
      rw [hH2, next_put]
      have hb : bvs (all ++ p.s) = bvs all ++ bvs p.s := by simp [bvs]
      rw [List.length_append, hb]
      exact hA1.kp fun k hk _ => get_put_ne (by omega)
  · simp [s27, kEq, addOff, hg, h1]
    exact ⟨h0, Kp.refl _ _⟩
def dn (k sm : Nat) (all : Bytes) : Bytes × Nat := if all.length < k then ([], 3) else if sumN all = sm then (all, 0) else ([], 4)
theorem jDone_t (h : Jo H J k sm all) (hl : all.length ≤ 100000) : Wf S 29 [.pointer (some ⟨J, 0, none⟩)] H fun v H' => Kp H.next H H' ∧ v = .tuple #[.string (ofL (dn k sm all).1), .int .i64 ((dn k sm all).2 : Nat)] := by
  refine w29 rfl rfl _ ?_
  obtain ⟨sv, hg, hA⟩ := h
  obtain ⟨a, c, rfl, hrow⟩ := hA.row
  have hlt := lt_cells hg
  have hb := fun K => s_b2s (S := S) (e := []) (K := K) (c := c) hrow
  unfold dn
  by_cases h1 : all.length < k
  · simp [s29, kEq, addOff, hg, h1, tup, bs_ofL]
    exact Kp.refl _ _
  · simp [s29, kEq, addOff, hg, h1, hb]
    refine (sumOf_t all (by omega)).mono ?_
    rintro v H1 ⟨hk1, rfl⟩
    have hg1 := (hk1.2 J hlt).trans hg
    have hA1 := hA.kp (H' := H1) fun k _ hk => hk1.2 k hk
    have hrow1 : kRow H1 5 1 all.length a = some (bvs all) := by
      obtain ⟨a', c', e, hr⟩ := hA1.row
      simp only [Value.slice.injEq] at e
      obtain ⟨rfl, _, _⟩ := e
      exact hr
    have hb1 := fun K => s_b2s (S := S) (e := []) (K := K) (c := c) hrow1
    have ckI : ∀ (n : Int) (H : Heap) (P : Prop), ck (some (Value.int .u64 n, H)) (Value.int .u64 n) P = P := fun n H P => by
      show (veq _ _ = true ∧ P) = P
      have : veq (Value.int .u64 n) (Value.int .u64 n) = true := by simp [veq, veq1]
      rw [this]; simp
    obtain ⟨sN, hsN⟩ : ∃ sN, sN = sumN all := ⟨_, rfl⟩
    rw [← hsN]
    by_cases h2 : sN = sm
    · have h2' : (sN : Int) = sm := by omega
      simp [kop, hg1, ckI, h2, h2', addOff, hb1, tup]
      exact hk1
    · have h2' : ¬ (sN : Int) = sm := by omega
      simp [kop, hg1, ckI, h2, h2', tup, bs_ofL]
      exact hk1
end
end Go.Proofs.YtjgpbhodbgjggaaGreat.K
/- Pieces put together: the law. -/
set_option maxRecDepth 100000
set_option maxHeartbeats 4000000
set_option linter.unusedVariables false
set_option linter.unusedSimpArgs false
set_option linter.unusedSectionVars false
namespace Go.Proofs.YtjgpbhodbgjggaaGreat.K
open Go Go.Proofs
section
variable {H : Heap}
def jK (size : Int) : Nat := (min (max size 0) 1048576).toNat
theorem jNew_t (size : Int) (sm : Nat) : Wf S 26 [.int .i64 size, .int .u64 sm] H fun v H' => v = .pointer (some ⟨H.next, 0, none⟩) ∧ Jo H' H.next (jK size) sm [] ∧ Kp H.next H H' := by
  refine w26 rfl rfl _ _ ?_
  have hk : ((jK size : Nat) : Int) = min (max size 0) 1048576 := by unfold jK; omega
  simp [s26, kFill, evPs, isTup, cellsL, wr]
  rw [← hk]
  exact ⟨⟨_, get_last, Acc.nil⟩, Kp.push (Nat.le_refl _)⟩
theorem nPut_t : Wf S 27 [.pointer none, .int .i64 0, .string (bs [])] H fun v H' => H' = H ∧ v = .int .i64 1 := by
  refine w27 rfl rfl _ _ _ ?_
  simp [s27, kEq]
theorem nSize_t : Wf S 28 [.pointer none] H fun v H' => H' = H ∧ v = .int .i64 0 := by
  refine w28 rfl rfl _ ?_
  simp [s28, kEq]
theorem nDone_t : Wf S 29 [.pointer none] H fun v H' => H' = H ∧ v = .tuple #[.string (ofL []), .int .i64 1] := by
  refine w29 rfl rfl _ ?_
  simp [s29, kEq, tup, bs_ofL]
theorem Jo.push {J k sm : Nat} {all : Bytes} {b : Blk} (h : Jo H J k sm all) : Jo (H.push b) J k sm all := by
  obtain ⟨sv, hg, hA⟩ := h
  have hlt := lt_cells hg
  exact ⟨sv, by rw [get_old hlt]; exact hg, (hA.kp fun k _ hk => get_old hk).mono (by simp)⟩
end
structure SjI (l : List Pu) (a : Option Addr) (c k sm : Nat) (d : Nat) (e : Fe) (H : Heap) (i : Nat) (J : Nat) (all : Bytes) : Prop where
  hi : i ≤ l.length
  hd : d = l.length - i
  hg : 0 < l.length → a = some ⟨0, 0, none⟩ ∧ H.get 0 = .cells (l.flatMap puV) 53 false
  hJ : 0 < J
  jo : Jo H J k sm all
  hl : all.length ≤ 60 * i
  hk : all.length ≤ k
  e2 : e 2 = .int .u64 sm
  e7 : e 7 = .int .i64 k
  e8 : e 8 = .string (ofL all)
  e9 : e 9 = .pointer (some ⟨J, 0, none⟩)
  e29 : e 29 = .slice a l.length c
  e30 : e 30 = .int .i64 l.length
  e31 : e 31 = .int .i64 i
theorem lawJoins (kv : Value) (blk : Blk) (size : Int) (sm : Nat) (hsm : sm < 18446744073709551616) (hkv : ArgSl [.int .i64, .str] 53 0 kv blk) :
    Wf S 8 [kv, .int .i64 size, .int .u64 sm] [blk] fun v _ => v = .bool true := by
  obtain ⟨a, c, l, rfl, ha⟩ : ∃ a c, ∃ l : List Pu, kv = .slice a l.length c ∧ (0 < l.length → a = some ⟨0, 0, none⟩ ∧ blk = .cells (l.flatMap puV) 53 false) := by
    rcases hkv with rfl | ⟨m, cs, _, hs, rfl, rfl⟩
    · exact ⟨none, 0, [], rfl, by simp⟩
    · obtain ⟨l, rfl, rfl, _⟩ := sks_rows (f := puV) (good := fun _ => True) (by decide) (fun vs h => by
        obtain ⟨_, _, rfl, ⟨k, rfl, _⟩, _, _, rfl, ⟨r, rfl, _⟩, rfl⟩ := h
        exact ⟨⟨k, r.data.toList⟩, by simp [puV, ofL_data], trivial⟩) m cs hs
      exact ⟨_, _, l, rfl, fun _ => ⟨rfl, rfl⟩⟩
  refine w8 rfl rfl _ _ _ ?_
  simp [s8]
  refine Wf_prim aw27_prim ⟨_, _, rfl, ?_⟩
  by_cases h20 : (20 : Int) < l.length
  · simp [h20]
  simp [h20]
  refine (jNew_t size sm).mono ?_
  rintro v H1 ⟨rfl, hjo, hk1⟩
  have hk : ((jK size : Nat) : Int) = min (max size 0) 1048576 := by unfold jK; omega
  have hkk : jK size ≤ 1048576 := by unfold jK; omega
  obtain ⟨k, hke⟩ : ∃ k, k = jK size := ⟨_, rfl⟩
  rw [← hk, ← hke]
  rw [← hke] at hjo hkk
  have hwk : Kp 1 [blk] H1 := hk1.mono (Nat.le_refl 1)
  have hgl : 0 < l.length → a = some ⟨0, 0, none⟩ ∧ H1.get 0 = .cells (l.flatMap puV) 53 false := fun hp => by
    obtain ⟨h1, h2⟩ := ha hp
    exact ⟨h1, by rw [hwk.2 0 (by omega), ← h2]; rfl⟩
  refine l8_0 S (fun d e H' => ∃ i J all, SjI l a c k sm d e H' i J all) l.length ⟨0, _, [], by omega, rfl, hgl, Nat.zero_lt_one, hjo, by simp, by simp, by simp, by simp, by simp [bs_ofL], by simp; rfl, by simp, by simp, by simp⟩ ?_
  rintro d e H' ⟨i, J, all, hi, rfl, hg, hJ, jo, hl, hk', e2, e7, e8, e9, e29, e30, e31⟩
  by_cases hlt : i < l.length
  · have hlt' : (i : Int) < l.length := by omega
    obtain ⟨p, hp⟩ : ∃ p, l[i]? = some p := ⟨_, List.getElem?_eq_getElem hlt⟩
    obtain ⟨rfl, hg0⟩ := hg (by omega)
    have hrd := rows_rd (f := puV) puV_len hp
    obtain ⟨at_, s⟩ := p
    obtain ⟨H2, hH2⟩ : ∃ H2, H2 = H'.push (.cells [.int .i64 at_, .string (ofL s)] 53 true) := ⟨_, rfl⟩
    have hst : kStn (H'.push (.cells [.int .i64 0, .string (bs [])] 53 true)) 2 (.pointer (some ⟨H'.next, 0, none⟩)) (.agg (puV ⟨at_, s⟩).toArray) = some H2 := by
      rw [hH2]; simp [kStn, wr, puV, put_push]
    have gP : H2.get H'.next = .cells [.int .i64 at_, .string (ofL s)] 53 true := by rw [hH2]; exact get_last
    have jo2 : Jo H2 J k sm all := by rw [hH2]; exact jo.push
    have n2 : H2.next = H'.next + 1 := by rw [hH2]; simp
    have k2 : Kp H'.next H' H2 := by rw [hH2]; exact Kp.push (Nat.le_refl _)
    have h0lt := lt_cells hg0
    have hg2 : H2.get 0 = .cells (l.flatMap puV) 53 false := (k2.2 0 h0lt).trans hg0
    clear hH2
    by_cases h60 : (60 : Int) < s.length
    · simp [s8_0, e29, e30, e31, hlt, hlt', addOff, kLdn, hg0, hrd, hst, gP, ofL_size, h60]
    have w1 : IntKind.i64.wrap ((i : Int) + 1) = ((i + 1 : Nat) : Int) := by rw [wi (by omega) (by omega)]; omega
    have w2 : IntKind.i64.wrap ((all.length : Int) + s.length) = ((all.length + s.length : Nat) : Int) := by rw [wi (by omega) (by omega)]; omega
    by_cases h1 : at_ = all.length
    · subst h1
      by_cases h2 : k < all.length + s.length
      · have h2' : (k : Int) < ((all.length + s.length : Nat) : Int) := by omega
        simp only [Int.natCast_add] at w2 h2'
        simp [s8_0, e29, e30, e31, hlt, hlt', addOff, kLdn, hg0, hrd, hst, gP, ofL_size, h60, e7, e8, e9, w2, h2']
        refine (jPut_t jo2 ⟨all.length, s⟩ hkk hk' (by omega) (by simp; omega)).mono ?_
        rintro v H3 ⟨rfl, jo3, hk3⟩
        have hpj : pj k all ⟨all.length, s⟩ = (5, all) := by unfold pj; rw [if_neg (by simp), if_pos h2]
        rw [hpj] at jo3 ⊢
        simp
        refine (jSize_t jo3).mono ?_
        rintro v H4 ⟨rfl, rfl⟩
        simp [ofL_size, e31, w1]
        have hg3 : H4.get 0 = .cells (l.flatMap puV) 53 false := (hk3.2 0 hJ).trans hg2
        exact ⟨l.length - (i + 1), by omega, i + 1, J, all, by omega, rfl, fun _ => ⟨rfl, hg3⟩, hJ, jo3, by omega, by omega, by simp [e2], by simp [e7], by simp [e8], by simp [e9], by simp [e29], by simp [e30], by simp⟩
      · have h2' : ¬ (k : Int) < ((all.length + s.length : Nat) : Int) := by omega
        simp only [Int.natCast_add] at w2 h2'
        have hcat : kBin .add (.string (ofL all)) (.string (ofL s)) = some (.string (ofL (all ++ s))) := s_add (by omega)
        simp [s8_0, e29, e30, e31, hlt, hlt', addOff, kLdn, hg0, hrd, hst, gP, ofL_size, h60, e7, e8, e9, w2, h2', hcat]
        refine (jPut_t jo2 ⟨all.length, s⟩ hkk hk' (by omega) (by simp; omega)).mono ?_
        rintro v H3 ⟨rfl, jo3, hk3⟩
        have hpj : pj k all ⟨all.length, s⟩ = (0, all ++ s) := by unfold pj; rw [if_neg (by simp), if_neg h2]
        rw [hpj] at jo3 ⊢
        simp
        refine (jSize_t jo3).mono ?_
        rintro v H4 ⟨rfl, rfl⟩
        simp [ofL_size, e31, w1]
        have hg3 : H4.get 0 = .cells (l.flatMap puV) 53 false := (hk3.2 0 hJ).trans hg2
        exact ⟨l.length - (i + 1), by omega, i + 1, J, (all ++ s), by omega, rfl, fun _ => ⟨rfl, hg3⟩, hJ, jo3, by simp; omega, by simp; omega, by simp [e2], by simp [e7], by simp [e8], by simp [e9], by simp [e29], by simp [e30], by simp⟩
    · simp [s8_0, e29, e30, e31, hlt, hlt', addOff, kLdn, hg0, hrd, hst, gP, ofL_size, h60, e8, h1, e9]
      refine (jPut_t jo2 ⟨at_, s⟩ hkk hk' (by omega) (by simp; omega)).mono ?_
      rintro v H3 ⟨rfl, jo3, hk3⟩
      have hpj : pj k all ⟨at_, s⟩ = (7, all) := by unfold pj; rw [if_pos h1]
      rw [hpj] at jo3 ⊢
      simp
      refine (jSize_t jo3).mono ?_
      rintro v H4 ⟨rfl, rfl⟩
      simp [ofL_size, e31, w1]
      have hg3 : H4.get 0 = .cells (l.flatMap puV) 53 false := (hk3.2 0 hJ).trans hg2
      exact ⟨l.length - (i + 1), by omega, i + 1, J, all, by omega, rfl, fun _ => ⟨rfl, hg3⟩, hJ, jo3, by omega, by omega, by simp [e2], by simp [e7], by simp [e8], by simp [e9], by simp [e29], by simp [e30], by simp⟩
  · obtain rfl : i = l.length := by omega
    simp [s8_0, e29, e30, e31, e9]
    refine (jDone_t jo (by omega)).mono ?_
    rintro v H3 ⟨hk3, rfl⟩
    simp
    refine nDone_t.mono ?_
    rintro v H4 ⟨rfl, rfl⟩
    simp
    refine nPut_t.mono ?_
    rintro v H5 ⟨rfl, rfl⟩
    simp
    refine nSize_t.mono ?_
    rintro v H6 ⟨rfl, rfl⟩
    simp [e7, e8, e2, ofL_size]
    unfold dn
    by_cases h1 : all.length < k
    · simp [h1, bs_ofL]
    · simp [h1]
      refine (rSum_t all (by omega)).mono ?_
      rintro v H7 ⟨rfl, rfl⟩
      obtain ⟨sN, hsN⟩ : ∃ sN, sN = sumN all := ⟨_, rfl⟩
      rw [← hsN]
      by_cases h2 : sN = sm
      · simp [h2, e8]
      · have h2' : ¬ (sN : Int) = sm := by omega
        simp [h2, h2', bs_ofL]
end Go.Proofs.YtjgpbhodbgjggaaGreat.K
