/- A writer of bits: some bits more. -/
import Derived.Test.YtlboioplemlneaaPBitsK
import Derived.Test.YtlboioplemlneaaPBitsL
set_option maxRecDepth 100000
set_option maxHeartbeats 2000000
set_option linter.unusedVariables false
set_option linter.unusedSimpArgs false
namespace Go.Proofs.Ytlboioplemlneaa.K
open Go Go.Proofs
/-- one cell of what was gathered is written -/
theorem Acc.set {t N M n : Nat} {H : Heap} {v : Value} {cs : List Value} (h : Acc t 1 N M H v n cs) {i : Nat} (hi : i < n) {x : Value} (hx : oneC x = true) :
    ∃ b c, v = .slice (some ⟨b, 0, none⟩) n c ∧ N ≤ b ∧ b < M ∧ H.get b = .cells cs t true ∧ kSt H (.pointer (some ⟨b, i, none⟩)) x = some (H.put b (.cells (cs.set i x) t true)) ∧ Acc t 1 N M (H.put b (.cells (cs.set i x) t true)) v n (cs.set i x) := by
  rcases h with ⟨rfl, rfl, rfl⟩ | ⟨b, c, h1, h2, h3, h4, h5, h6⟩
  · omega
  · have hb := lt_cells h5
    refine ⟨b, c, h3, h1, h2, h5, ?_, .inr ⟨b, c, h1, h2, h3, h4, get_put_eq hb, by rw [List.length_set]; exact h6⟩⟩
    have : i < cs.length := by omega
    simp [kSt, h5, this, hx]
theorem wu8 {x : Int} (h0 : 0 ≤ x) (h1 : x < 256) : IntKind.u8.wrap x = x := by
  simp [IntKind.wrap, IntKind.signed, IntKind.bits]; omega
/-- a writer at w that holds n bits, of the number V -/
structure Wr (H : Heap) (w V n : Nat) (sv : Value) : Prop where
  hx : H.get w = BwB sv n
  a : Acc 5 1 (w + 1) H.next H sv ((n + 7) / 8) (bvs (packN V n))
  hV : V < 2 ^ n
section
variable {H : Heap} {w V n : Nat}
structure PutI (H0 : Heap) (w V n v k : Nat) (d : Nat) (e : Fe) (H : Heap) (g : Nat) : Prop where
  h1 : g ≤ k
  h2 : d = k - g
  kp : Kp w H0 H
  r : ∃ sv, Wr H w (V + (v % 2 ^ g) * 2 ^ n) (n + g) sv
  e0 : e 0 = .pointer (some ⟨w, 0, none⟩)
  e1 : e 1 = .int .u32 ((v / 2 ^ g : Nat) : Int)
  e2 : e 2 = .int .i64 ((k - g : Nat) : Int)
/-- a writer that has begun the byte in which the next bits stand -/
theorem Wr.open {sv : Value} (h : Wr H w V n sv) (hn : n ≤ 1000000) (h0 : n % 8 = 0) : ∃ v' H1, kApp (H.push (.cells [.int .u8 0] 5 true)) 5 1 1 sv 1 [.int .u8 0] = some (v', H1) ∧ oneC v' = true ∧ H1.get w = BwB sv n ∧
    Kp w H H1 ∧ w < H1.next ∧ Acc 5 1 (w + 1) H1.next H1 v' (n / 8 + 1) (bvs (packN V n ++ [0])) := by
  have hlt : w < H.next := lt_cells h.hx
  obtain ⟨v', H1, e1, hA, hn1, hk⟩ := h.a.app (bytes := 1) (new := [.int .u8 0]) (by omega) (Nat.le_refl _) rfl (by unfold roomMax; omega)
  have ho : oneC v' = true := by
    obtain ⟨a, c, rfl, _⟩ := hA.len
    rfl
  refine ⟨v', H1, e1, ho, (hk w hlt (.inl (by omega))).trans h.hx, ⟨by omega, fun k hk' => hk k (by omega) (.inl (by omega))⟩, by omega, ?_⟩
  have e : n / 8 + 1 = (n + 7) / 8 + 1 := by omega
  rw [e]
  simpa [bvs, bv] using hA
theorem BwB_len {sv : Value} {n : Nat} : BwB sv n = .cells [sv, .int .i64 n] 99 true := rfl
theorem and_mask {a k : Nat} (ha : a < 4294967296) (hk : k ≤ 8) : kBin .and (.int .u32 (a : Int)) (.int .u32 ((2 ^ k - 1 : Nat) : Int)) = some (.int .u32 ((a % 2 ^ k : Nat) : Int)) := by
  have p8 : 2 ^ k ≤ 2 ^ 8 := Nat.pow_le_pow_right (by omega) hk
  have e8 : (2 : Nat) ^ 8 = 256 := by decide
  have hm : a % 2 ^ k ≤ a := Nat.mod_le _ _
  have e32 : (2 : Nat) ^ IntKind.u32.bits = 4294967296 := by decide
  rw [kb_andN (by omega) (by omega), and_low, wu32 (by omega) (by omega)]
/-- the last byte is turned, and the bits are told -/
theorem put_tail {sv : Value} {B : Bytes} {p j W m y : Nat} (hx : H.get w = BwB sv p) (hA : Acc 5 1 (w + 1) H.next H sv (p / 8 + 1) (bvs B)) (hy : y < 256) (hB : B.set (p / 8) (UInt8.ofNat y) = packN (W + m * 2 ^ p) (p + j)) (hV : W + m * 2 ^ p < 2 ^ (p + j)) (hl : (p + j + 7) / 8 = p / 8 + 1) :
    ∃ b c H3 H4, sv = .slice (some ⟨b, 0, none⟩) (p / 8 + 1) c ∧ H.get b = .cells (bvs B) 5 true ∧ kSt H (.pointer (some ⟨b, p / 8, none⟩)) (.int .u8 y) = some H3 ∧ H3.get w = BwB sv p ∧ kSt H3 (.pointer (some ⟨w, 1, none⟩)) (.int .i64 ((p + j : Nat) : Int)) = some H4 ∧ Kp w H H4 ∧ Wr H4 w (W + m * 2 ^ p) (p + j) sv := by
  have hlt : w < H.next := lt_cells hx
  obtain ⟨b, c, e1, q1, q2, hg, hst, hA2⟩ := hA.set (i := p / 8) (by omega) (x := .int .u8 y) rfl
  obtain ⟨H3, hH3⟩ : ∃ H3, H3 = H.put b (.cells ((bvs B).set (p / 8) (.int .u8 y)) 5 true) := ⟨_, rfl⟩
  rw [← hH3] at hst hA2
  have hn3 : H3.next = H.next := by rw [hH3]; exact next_put
  have hg3 : H3.get w = BwB sv p := by rw [hH3, get_put_ne (by omega)]; exact hx
  have hg3' : H3.get w = .cells [sv, .int .i64 p] 99 true := hg3
  refine ⟨b, c, H3, H3.put w (BwB sv (p + j)), e1, hg, hst, hg3, by simp [kSt, hg3', oneC, BwB], ?_, ?_⟩
  · rw [hH3]
    exact (Kp.put (by omega)).trans (Kp.put (Nat.le_refl _))
  · refine ⟨get_put_eq (by omega), ?_, hV⟩
    rw [next_put, hl, ← hB]
    have := hA2.kp (H' := H3.put w (BwB sv (p + j))) fun k hk _ => get_put_ne (by omega)
    rw [hn3]
    have e : bvs (B.set (p / 8) (UInt8.ofNat y)) = (bvs B).set (p / 8) (.int .u8 y) := by
      simp [bvs, List.map_set, bv]
      congr 2; omega
    rw [e]; exact this
theorem Put_t {sv : Value} (h : Wr H w V n sv) (hn : n ≤ 900000) (v k : Nat) (hv : v < 4294967296) (hk : k ≤ 32) :
    Wf S 71 [.pointer (some ⟨w, 0, none⟩), .int .u32 v, .int .i64 k] H fun r H' => r = .bool true ∧ Kp w H H' ∧ ∃ sv', Wr H' w (V + (v % 2 ^ k) * 2 ^ n) (n + k) sv' := by
  refine w71 rfl rfl _ _ _ ?_
  have hr1 : decide (0 ≤ (k : Int) ∧ (k : Int) ≤ 32) = true := by rw [decide_eq_true_eq]; omega
  simp [s71, kEq]
  refine (bright_t (k : Int)).mono ?_
  rintro v0 H1 ⟨rfl, rfl⟩
  rw [hr1]
  simp
  refine l71_0 S (fun d e H' => ∃ g, PutI H1 w V n v k d e H' g) k ⟨0, by omega, by omega, Kp.refl _ _, ⟨sv, by simpa [Nat.mod_one] using h⟩, by simp, by simp, by simp⟩ ?_
  rintro d e H' ⟨g, hg, rfl, hkp, ⟨sv', hw⟩, e0, e1, e2⟩
  by_cases h3 : g < k
  · obtain ⟨r, hr⟩ : ∃ r, r = k - g := ⟨_, rfl⟩
    have h3' : 0 < r := by omega
    rw [← hr] at e2
    obtain ⟨D, hD⟩ : ∃ D, D = v / 2 ^ g := ⟨_, rfl⟩
    obtain ⟨W, hW⟩ : ∃ W, W = V + (v % 2 ^ g) * 2 ^ n := ⟨_, rfl⟩
    obtain ⟨p, hp⟩ : ∃ p, p = n + g := ⟨_, rfl⟩
    obtain ⟨q, hq⟩ : ∃ q, q = p % 8 := ⟨_, rfl⟩
    obtain ⟨j, hj⟩ : ∃ j, j = min r (8 - q) := ⟨_, rfl⟩
    obtain ⟨m, hm⟩ : ∃ m, m = D % 2 ^ j := ⟨_, rfl⟩
    have hDv : D ≤ v := by rw [hD]; exact Nat.div_le_self _ _
    rw [← hW, ← hp] at hw
    rw [← hD] at e1
    have hmj : m < 2 ^ j := by rw [hm]; exact Nat.mod_lt _ (Nat.pow_pos (by omega))
    have e8 : (2 : Nat) ^ 8 = 256 := by decide
    have pj8 : 2 ^ j ≤ 2 ^ 8 := Nat.pow_le_pow_right (by omega) (by omega)
    have pj0 : 0 < 2 ^ j := Nat.pow_pos (by omega)
    have hlt : w < H'.next := lt_cells hw.hx
    have hgx := hw.hx
    have ha7 := and7 p (by omega)
    rw [← hq] at ha7
    have w2 : IntKind.i64.wrap (8 - (q : Int)) = 8 - (q : Int) := wi (by omega) (by omega)
    have w3 : min (r : Int) (8 - (q : Int)) = (j : Int) := by omega
    have hjb : min j IntKind.u32.bits = j := by
      have : IntKind.u32.bits = 32 := rfl
      omega
    have hqb : min q IntKind.u8.bits = q := by
      have : IntKind.u8.bits = 8 := rfl
      omega
    have o3 : kBin .shl (.int .u32 1) (.int .i64 (j : Int)) = some (.int .u32 ((2 ^ j : Nat) : Int)) := by
      rw [kb_shl, if_neg (by omega), Int.toNat_natCast, hjb, Int.one_mul]
      have : ((2 : Int) ^ j) = ((2 ^ j : Nat) : Int) := by exact_mod_cast rfl
      rw [this, wu32 (by omega) (by omega)]
    have w5 : IntKind.u32.wrap (((2 ^ j : Nat) : Int) - 1) = ((2 ^ j - 1 : Nat) : Int) := by rw [wu32 (by omega) (by omega)]; omega
    have o4 := and_mask (a := D) (k := j) (by omega) (by omega)
    rw [← hm] at o4
    have w6 : IntKind.u8.wrap (m : Int) = m := wu8 (by omega) (by omega)
    have hmq : m * 2 ^ q < 256 := by
      have h1 : (m + 1) * 2 ^ q ≤ 2 ^ j * 2 ^ q := Nat.mul_le_mul_right _ hmj
      have h2 : 2 ^ j * 2 ^ q ≤ 2 ^ 8 := by rw [← Nat.pow_add]; exact Nat.pow_le_pow_right (by omega) (by omega)
      have h3 : 0 < 2 ^ q := Nat.pow_pos (by omega)
      rw [Nat.succ_mul] at h1; omega
    obtain ⟨mq, hmqe⟩ : ∃ mq, mq = m * 2 ^ q := ⟨_, rfl⟩
    have o5 : kBin .shl (.int .u8 (m : Int)) (.int .i64 (q : Int)) = some (.int .u8 (mq : Int)) := by
      rw [kb_shl, if_neg (by omega), Int.toNat_natCast, hqb]
      have : (m : Int) * 2 ^ q = ((m * 2 ^ q : Nat) : Int) := by exact_mod_cast rfl
      rw [this, ← hmqe, wu8 (by omega) (by omega)]
    have o7 : kBin .shr (.int .u32 (D : Int)) (.int .i64 (j : Int)) = some (.int .u32 ((v / 2 ^ (g + j) : Nat) : Int)) := by
      rw [kb_shr, if_neg (by omega), Int.toNat_natCast, hjb, Int.fdiv_eq_ediv_of_nonneg _ (by exact_mod_cast Nat.zero_le (2 ^ j)), Nat.pow_add, ← Nat.div_div_eq_div_mul, ← hD]
      congr 2
    have w8 : IntKind.i64.wrap ((p : Int) + j) = ((p + j : Nat) : Int) := by rw [wi (by omega) (by omega)]; omega
    have w9 : IntKind.i64.wrap ((r : Int) - j) = ((k - (g + j) : Nat) : Int) := by rw [wi (by omega) (by omega)]; omega
    have hWn : V + (v % 2 ^ (g + j)) * 2 ^ n = W + m * 2 ^ p := by
      have := Nat.mod_mul (x := v) (a := 2 ^ g) (b := 2 ^ j)
      rw [Nat.pow_add, this, ← hD, ← hm, Nat.add_mul, hW, hp, Nat.pow_add, Nat.add_assoc]
      congr 2
      rw [Nat.mul_comm (2 ^ g), Nat.mul_assoc, Nat.mul_comm (2 ^ g)]
    have hVn : W + m * 2 ^ p < 2 ^ (p + j) := put_lt hw.hV hmj
    have hj1 : 0 < j := by omega
    have hwl : IntKind.i64.wrap (((p / 8 + 1 : Nat) : Int) - 1) = ((p / 8 : Nat) : Int) := by rw [wi (by omega) (by omega)]; omega
    have hpl := packN_len W p
    by_cases hq0 : q = 0
    · subst hq0
      have hm' : mq = m := by rw [hmqe]; simp
      obtain ⟨v', H1', a1, ho, g1, k1, l1, A1⟩ := hw.open (by omega) hq.symm
      have g1' : H1'.get w = .cells [sv', .int .i64 p] 99 true := g1
      obtain ⟨H2, hH2⟩ : ∃ H2, H2 = H1'.put w (BwB v' p) := ⟨_, rfl⟩
      have s1 : kSt H1' (.pointer (some ⟨w, 0, none⟩)) v' = some H2 := by simp [kSt, g1', ho, hH2, BwB]
      have g2 : H2.get w = BwB v' p := by rw [hH2]; exact get_put_eq l1
      have A2 : Acc 5 1 (w + 1) H2.next H2 v' (p / 8 + 1) (bvs (packN W p ++ [0])) := by
        rw [hH2, next_put]
        exact A1.kp fun k hk _ => get_put_ne (by omega)
      have k2 : Kp w H' H2 := k1.trans (by rw [hH2]; exact Kp.put (Nat.le_refl _))
      obtain ⟨b, c, H3, H4, rfl, t1, t2, t3, t4, t5, t6⟩ := put_tail (W := W) (m := m) (j := j) (y := mq) g2 A2 (by omega) (by
        rw [hm', packN_new hw.hV hmj hq.symm hj1 (by omega), List.set_append_right _ _ (by omega)]
        have : p / 8 - (packN W p).length = 0 := by omega
        rw [this]; rfl) hVn (by omega)
      have g2' : H2.get w = .cells [.slice (some ⟨b, 0, none⟩) (p / 8 + 1) c, .int .i64 p] 99 true := g2
      have g3' : H3.get w = .cells [.slice (some ⟨b, 0, none⟩) (p / 8 + 1) c, .int .i64 p] 99 true := t3
      have hcx : (bvs (packN W p ++ [0]))[p / 8]? = some (.int .u8 0) := by
        have : p / 8 = (packN W p).length := by omega
        rw [this]; simp [bvs, bv]
      have o8 : kBin .or (.int .u8 0) (.int .u8 (mq : Int)) = some (.int .u8 (mq : Int)) := by
        have := kb_orN (k := .u8) (a := 0) (b := mq) (by decide) (by show mq < 2 ^ 8; omega)
        rw [Nat.zero_or, wu8 (by omega) (by omega)] at this
        exact this
      obtain ⟨P8, hP8⟩ : ∃ P8, P8 = p / 8 := ⟨_, rfl⟩
      rw [← hP8] at hwl hcx t2 g2' g3'
      have hgx' : H'.get w = .cells [sv', .int .i64 p] 99 true := hgx
      have w2' : IntKind.i64.wrap 8 = 8 := by decide
      have w3' : min (r : Int) 8 = (j : Int) := by omega
      have o5' : kBin .shl (.int .u8 (m : Int)) (.int .i64 0) = some (.int .u8 (mq : Int)) := o5
      have hP1 : P8 < P8 + 1 := by omega
      have hP1i : (P8 : Int) < P8 + 1 := by omega
      have hwl2 : IntKind.i64.wrap (P8 : Int) = P8 := wi (by omega) (by omega)
      obtain ⟨E, hE⟩ : ∃ E, E = 2 ^ j := ⟨_, rfl⟩
      rw [← hE] at o3 o4 w5
      obtain ⟨v2, hv2⟩ : ∃ v2, v2 = v / 2 ^ (g + j) := ⟨_, rfl⟩
      rw [← hv2] at o7
      obtain ⟨r2, hr2⟩ : ∃ r2, r2 = k - (g + j) := ⟨_, rfl⟩
      rw [← hr2] at w9
      rw [Int.natCast_add] at hwl w8 t4
      simp only [s71_0]
      simp [e0, e1, e2, h3', addOff, hgx', ha7, a1, s1, kFill, evPs, isTup, cellsL, wr, kRow, rd, g2', g3', w2', w3', hP1, hP1i, hwl, hwl2, t1, hcx, o3, w5, o4, w6, o5', o8, t2, o7, w8, t4, w9]
      refine ⟨k - (g + j), by omega, g + j, by omega, rfl, hkp.trans (k2.trans t5), ⟨.slice (some ⟨b, 0, none⟩) (p / 8 + 1) c, ?_⟩, by simp [e0], by simp [hv2], by simp [hr2]⟩
      rw [hWn, ← Nat.add_assoc, ← hp]; exact t6
    · have hqp : 0 < q := by omega
      have hW8 : nby W (p / 8) < 2 ^ q := by
        have h1 := nby_top hw.hV
        rw [← hq] at h1
        exact Nat.lt_of_le_of_lt (Nat.mod_le _ _) h1
      have p7 : 2 ^ q ≤ 2 ^ 7 := Nat.pow_le_pow_right (by omega) (by omega)
      have e7 : (2 : Nat) ^ 7 = 128 := by decide
      obtain ⟨y0, hy0⟩ : ∃ y0, y0 = nby W (p / 8) := ⟨_, rfl⟩
      rw [← hy0] at hW8
      have hyb : y0 + mq < 256 := by
        have h1 : (m + 1) * 2 ^ q ≤ 2 ^ j * 2 ^ q := Nat.mul_le_mul_right _ hmj
        have h2 : 2 ^ j * 2 ^ q ≤ 2 ^ 8 := by rw [← Nat.pow_add]; exact Nat.pow_le_pow_right (by omega) (by omega)
        rw [Nat.succ_mul] at h1; omega
      have hA' : Acc 5 1 (w + 1) H'.next H' sv' (p / 8 + 1) (bvs (packN W p)) := by
        have e : p / 8 + 1 = (p + 7) / 8 := by omega
        rw [e]; exact hw.a
      obtain ⟨b, c, H3, H4, rfl, t1, t2, t3, t4, t5, t6⟩ := put_tail (W := W) (m := m) (j := j) (y := y0 + mq) hgx hA' (by omega) (by
        rw [packN_on hw.hV hmj (by omega) hj1 (by omega), hy0, hmqe, ← hq]) hVn (by omega)
      have g2' : H'.get w = .cells [.slice (some ⟨b, 0, none⟩) (p / 8 + 1) c, .int .i64 p] 99 true := hgx
      have g3' : H3.get w = .cells [.slice (some ⟨b, 0, none⟩) (p / 8 + 1) c, .int .i64 p] 99 true := t3
      have hcx : (bvs (packN W p))[p / 8]? = some (.int .u8 (y0 : Int)) := by
        have := packN_get (V := W) (n := p) (j := p / 8) (by omega)
        simp only [bvs, List.getElem?_map, this, Option.map_some, bv]
        rw [← hy0]
        have : (UInt8.ofNat y0).toNat = y0 := by simp; omega
        rw [this]
      have o8 : kBin .or (.int .u8 (y0 : Int)) (.int .u8 (mq : Int)) = some (.int .u8 ((y0 + mq : Nat) : Int)) := by
        have := kb_orN (k := .u8) (a := y0) (b := mq) (by show y0 < 2 ^ 8; omega) (by show mq < 2 ^ 8; omega)
        rw [hmqe, or_high hW8, ← hmqe, wu8 (by omega) (by omega)] at this
        exact this
      obtain ⟨P8, hP8⟩ : ∃ P8, P8 = p / 8 := ⟨_, rfl⟩
      rw [← hP8] at hwl hcx t2 g2' g3'
      have hP1 : P8 < P8 + 1 := by omega
      have hP1i : (P8 : Int) < P8 + 1 := by omega
      have hwl2 : IntKind.i64.wrap (P8 : Int) = P8 := wi (by omega) (by omega)
      obtain ⟨E, hE⟩ : ∃ E, E = 2 ^ j := ⟨_, rfl⟩
      rw [← hE] at o3 o4 w5
      obtain ⟨v2, hv2⟩ : ∃ v2, v2 = v / 2 ^ (g + j) := ⟨_, rfl⟩
      rw [← hv2] at o7
      obtain ⟨r2, hr2⟩ : ∃ r2, r2 = k - (g + j) := ⟨_, rfl⟩
      rw [← hr2] at w9
      obtain ⟨y1, hy1⟩ : ∃ y1, y1 = y0 + mq := ⟨_, rfl⟩
      rw [← hy1] at o8 t2
      rw [Int.natCast_add] at hwl w8 t4
      simp only [s71_0]
      simp [e0, e1, e2, h3', addOff, ha7, g2', g3', w2, w3, hP1, hP1i, hwl, hwl2, t1, hcx, o3, w5, o4, w6, o5, o8, t2, o7, w8, t4, w9, hq0]
      refine ⟨k - (g + j), by omega, g + j, by omega, rfl, hkp.trans t5, ⟨.slice (some ⟨b, 0, none⟩) (p / 8 + 1) c, ?_⟩, by simp [e0], by simp [hv2], by simp [hr2]⟩
      rw [hWn, ← Nat.add_assoc, ← hp]; exact t6
  · have h5 : g = k := by omega
    subst h5
    simp [s71_0, e2]
    exact ⟨hkp, sv', hw⟩
end
end Go.Proofs.Ytlboioplemlneaa.K
