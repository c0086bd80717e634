/- A writer of bits: some bits more. -/
import Derived.Test.YtlboioplemlneaaGreatPB
import Derived.Test.YtlboioplemlneaaGreatPA
set_option maxRecDepth 100000
set_option maxHeartbeats 2000000
set_option linter.unusedVariables false
set_option linter.unusedSimpArgs false
namespace Go.Proofs.YtlboioplemlneaaGreat.K
open Go Go.Proofs
/-- one cell of what was gathered is written -/
theorem Acc.set {t N M n : Nat} {H : Heap} {v : Value} {cs : List Value} (h : Acc t 1 N M H v n cs) {i : Nat} (hi : i < n) {x : Value} (hx : oneC x = true) :
    ∃ b c, v = .slice (some ⟨b, 0, none⟩) n c ∧ N ≤ b ∧ b < M ∧ H.get b = .cells cs t true ∧ kSt H (.pointer (some ⟨b, i, none⟩)) x = some (H.put b (.cells (cs.set i x) t true)) ∧ Acc t 1 N M (H.put b (.cells (cs.set i x) t true)) v n (cs.set i x) := by
  rcases h with ⟨rfl, rfl, rfl⟩ | ⟨b, c, h1, h2, h3, h4, h5, h6⟩
  · omega
  · have hb := lt_cells h5
    refine ⟨b, c, h3, h1, h2, h5, ?_, .inr ⟨b, c, h1, h2, h3, h4, get_put_eq hb, by rw [List.length_set]; exact h6⟩⟩
    have : i < cs.length := by omega
    simp [kSt, h5, this, hx]
theorem wu8 {x : Int} (h0 : 0 ≤ x) (h1 : x < 256) : IntKind.u8.wrap x = x := by
  simp [IntKind.wrap, IntKind.signed, IntKind.bits]; omega
/-- a writer at w that holds n bits, of the number V -/
structure Wr (H : Heap) (w V n : Nat) (sv : Value) : Prop where
  hx : H.get w = BwB sv n
  a : Acc 5 1 (w + 1) H.next H sv ((n + 7) / 8) (bvs (packN V n))
  hV : V < 2 ^ n
section
variable {H : Heap} {w V n : Nat}
structure PutI (H0 : Heap) (w V n v k : Nat) (d : Nat) (e : Fe) (H : Heap) (g : Nat) : Prop where
  h1 : g ≤ k
  h2 : d = k - g
  kp : Kp w H0 H
  r : ∃ sv, Wr H w (V + (v % 2 ^ g) * 2 ^ n) (n + g) sv
  e0 : e 0 = .pointer (some ⟨w, 0, none⟩)
  e1 : e 1 = .int .u32 ((v / 2 ^ g : Nat) : Int)
  e2 : e 2 = .int .i64 ((k - g : Nat) : Int)
/-- a writer that has begun the byte in which the next bits stand -/
theorem Wr.open {sv : Value} (h : Wr H w V n sv) (hn : n ≤ 1000000) (h0 : n % 8 = 0) : ∃ v' H1, kApp (H.push (.cells [.int .u8 0] 5 true)) 5 1 1 sv 1 [.int .u8 0] = some (v', H1) ∧ oneC v' = true ∧ H1.get w = BwB sv n ∧
    Kp w H H1 ∧ w < H1.next ∧ Acc 5 1 (w + 1) H1.next H1 v' (n / 8 + 1) (bvs (packN V n ++ [0])) := by
  have hlt : w < H.next := lt_cells h.hx
  obtain ⟨v', H1, e1, hA, hn1, hk⟩ := h.a.app (bytes := 1) (new := [.int .u8 0]) (by omega) (Nat.le_refl _) rfl (by unfold roomMax; omega)
  have ho : oneC v' = true := by
    obtain ⟨a, c, rfl, _⟩ := hA.len
    rfl
  refine ⟨v', H1, e1, ho, (hk w hlt (.inl (by omega))).trans h.hx, ⟨by omega, fun k hk' => hk k (by omega) (.inl (by omega))⟩, by omega, ?_⟩
  have e : n / 8 + 1 = (n + 7) / 8 + 1 := by omega
  rw [e]
  simpa [bvs, bv] using hA
theorem BwB_len {sv : Value} {n : Nat} : BwB sv n = .cells [sv, .int .i64 n] 91 true := rfl
theorem and_mask {a k : Nat} (ha : a < 4294967296) (hk : k ≤ 8) : kBin .and (.int .u32 (a : Int)) (.int .u32 ((2 ^ k - 1 : Nat) : Int)) = some (.int .u32 ((a % 2 ^ k : Nat) : Int)) := by
  have p8 : 2 ^ k ≤ 2 ^ 8 := Nat.pow_le_pow_right (by omega) hk
  have e8 : (2 : Nat) ^ 8 = 256 := by decide
  have hm : a % 2 ^ k ≤ a := Nat.mod_le _ _
  have e32 : (2 : Nat) ^ IntKind.u32.bits = 4294967296 := by decide
  rw [kb_andN (by omega) (by omega), and_low, wu32 (by omega) (by omega)]
/-- the last byte is turned, and the bits are told -/
theorem put_tail {sv : Value} {B : Bytes} {p j W m y : Nat} (hx : H.get w = BwB sv p) (hA : Acc 5 1 (w + 1) H.next H sv (p / 8 + 1) (bvs B)) (hy : y < 256) (hB : B.set (p / 8) (UInt8.ofNat y) = packN (W + m * 2 ^ p) (p + j)) (hV : W + m * 2 ^ p < 2 ^ (p + j)) (hl : (p + j + 7) / 8 = p / 8 + 1) :
    ∃ b c H3 H4, sv = .slice (some ⟨b, 0, none⟩) (p / 8 + 1) c ∧ H.get b = .cells (bvs B) 5 true ∧ kSt H (.pointer (some ⟨b, p / 8, none⟩)) (.int .u8 y) = some H3 ∧ H3.get w = BwB sv p ∧ kSt H3 (.pointer (some ⟨w, 1, none⟩)) (.int .i64 ((p + j : Nat) : Int)) = some H4 ∧ Kp w H H4 ∧ Wr H4 w (W + m * 2 ^ p) (p + j) sv := by
  have hlt : w < H.next := lt_cells hx
  obtain ⟨b, c, e1, q1, q2, hg, hst, hA2⟩ := hA.set (i := p / 8) (by omega) (x := .int .u8 y) rfl
  obtain ⟨H3, hH3⟩ : ∃ H3, H3 = H.put b (.cells ((bvs B).set (p / 8) (.int .u8 y)) 5 true) := ⟨_, rfl⟩
  rw [← hH3] at hst hA2
  have hn3 : H3.next = H.next := by rw [hH3]; exact next_put
  have hg3 : H3.get w = BwB sv p := by rw [hH3, get_put_ne (by omega)]; exact hx
  have hg3' : H3.get w = .cells [sv, .int .i64 p] 91 true := hg3
  refine ⟨b, c, H3, H3.put w (BwB sv (p + j)), e1, hg, hst, hg3, by simp [kSt, hg3', oneC, BwB], ?_, ?_⟩
  · rw [hH3]
    exact (Kp.put (by omega)).trans (Kp.put (Nat.le_refl _))
  · refine ⟨get_put_eq (by omega), ?_, hV⟩
    rw [next_put, hl, ← hB]
    have := hA2.kp (H' := H3.put w (BwB sv (p + j))) fun k hk _ => get_put_ne (by omega)
    rw [hn3]
    have e : bvs (B.set (p / 8) (UInt8.ofNat y)) = (bvs B).set (p / 8) (.int .u8 y) := by
      simp [bvs, List.map_set, bv]
      congr 2; omega
    rw [e]; exact this
theorem Put_t {sv : Value} (h : Wr H w V n sv) (hn : n ≤ 900000) (v k : Nat) (hv : v < 4294967296) (hk : k ≤ 32) :
    Wf S 60 [.pointer (some ⟨w, 0, none⟩), .int .u32 v, .int .i64 k] H fun r H' => r = .bool true ∧ Kp w H H' ∧ ∃ sv', Wr H' w (V + (v % 2 ^ k) * 2 ^ n) (n + k) sv' := by
  refine w60 rfl rfl _ _ _ ?_
  have hr1 : decide (0 ≤ (k : Int) ∧ (k : Int) ≤ 32) = true := by rw [decide_eq_true_eq]; omega
  simp [s60, kEq]
  refine (bright_t (k : Int)).mono ?_
  rintro v0 H1 ⟨rfl, rfl⟩
  rw [hr1]
  simp
  refine l60_0 S (fun d e H' => ∃ g, PutI H1 w V n v k d e H' g) k ⟨0, by omega, by omega, Kp.refl _ _, ⟨sv, by simpa [Nat.mod_one] using h⟩, by simp, by simp, by simp⟩ ?_
  rintro d e H' ⟨g, hg, rfl, hkp, ⟨sv', hw⟩, e0, e1, e2⟩
  by_cases h3 : g < k
  · obtain ⟨r, hr⟩ : ∃ r, r = k - g := ⟨_, rfl⟩
    have h3' : 0 < r := by omega
    rw [← hr] at e2
    obtain ⟨D, hD⟩ : ∃ D, D = v / 2 ^ g := ⟨_, rfl⟩
    obtain ⟨W, hW⟩ : ∃ W, W = V + (v % 2 ^ g) * 2 ^ n := ⟨_, rfl⟩
    obtain ⟨p, hp⟩ : ∃ p, p = n + g := ⟨_, rfl⟩
    obtain ⟨q, hq⟩ : ∃ q, q = p % 8 := ⟨_, rfl⟩
    obtain ⟨j, hj⟩ : ∃ j, j = min r (8 - q) := ⟨_, rfl⟩
    obtain ⟨m, hm⟩ : ∃ m, m = D % 2 ^ j := ⟨_, rfl⟩
    have hDv : D ≤ v := by rw [hD]; exact Nat.div_le_self _ _
    rw [← hW, ← hp] at hw
    rw [← hD] at e1
    have hmj : m < 2 ^ j := by rw [hm]; exact Nat.mod_lt _ (Nat.pow_pos (by omega))
    have e8 : (2 : Nat) ^ 8 = 256 := by decide
    have pj8 : 2 ^ j ≤ 2 ^ 8 := Nat.pow_le_pow_right (by omega) (by omega)
    have pj0 : 0 < 2 ^ j := Nat.pow_pos (by omega)
    have hlt : w < H'.next := lt_cells hw.hx
    have hgx := hw.hx
    have ha7 := and7 p (by omega)
    rw [← hq] at ha7
    have w2 : IntKind.i64.wrap (8 - (q : Int)) = 8 - (q : Int) := wi (by omega) (by omega)
    have w3 : min (r : Int) (8 - (q : Int)) = (j : Int) := by omega
    have hjb : min j IntKind.u32.bits = j := by
      have : IntKind.u32.bits = 32 := rfl
      omega
    have hqb : min q IntKind.u8.bits = q := by
      have : IntKind.u8.bits = 8 := rfl
      omega
    have o3 : kBin .shl (.int .u32 1) (.int .i64 (j : Int)) = some (.int .u32 ((2 ^ j : Nat) : Int)) := by
      rw [kb_shl, if_neg (by omega), Int.toNat_natCast, hjb, Int.one_mul]
      have : ((2 : Int) ^ j) = ((2 ^ j : Nat) : Int) := by exact_mod_cast rfl
      rw [this, wu32 (by omega) (by omega)]
    have w5 : IntKind.u32.wrap (((2 ^ j : Nat) : Int) - 1) = ((2 ^ j - 1 : Nat) : Int) := by rw [wu32 (by omega) (by omega)]; omega
    have o4 := and_mask (a := D) (k := j) (by omega) (by omega)
    rw [← hm] at o4
    have w6 : IntKind.u8.wrap (m : Int) = m := wu8 (by omega) (by omega)
    have hmq : m * 2 ^ q < 256 := by
      have h1 : (m + 1) * 2 ^ q ≤ 2 ^ j * 2 ^ q := Nat.mul_le_mul_right _ hmj
      have h2 : 2 ^ j * 2 ^ q ≤ 2 ^ 8 := by rw [← Nat.pow_add]; exact Nat.pow_le_pow_right (by omega) (by omega)
      have h3 : 0 < 2 ^ q := Nat.pow_pos (by omega)
      rw [Nat.succ_mul] at h1; omega
    obtain ⟨mq, hmqe⟩ : ∃ mq, mq = m * 2 ^ q := ⟨_, rfl⟩
    have o5 : kBin .shl (.int .u8 (m : Int)) (.int .i64 (q : Int)) = some (.int .u8 (mq : Int)) := by
      rw [kb_shl, if_neg (by omega), Int.toNat_natCast, hqb]
      have : (m : Int) * 2 ^ q = ((m * 2 ^ q : Nat) : Int) := by exact_mod_cast rfl
      rw [this, ← hmqe, wu8 (by omega) (by omega)]
    have o7 : kBin .shr (.int .u32 (D : Int)) (.int .i64 (j : Int)) = some (.int .u32 ((v / 2 ^ (g + j) : Nat) : Int)) := by
      rw [kb_shr, if_neg (by omega), Int.toNat_natCast, hjb, Int.fdiv_eq_ediv_of_nonneg _ (by exact_mod_cast Nat.zero_le (2 ^ j)), Nat.pow_add, ← Nat.div_div_eq_div_mul, ← hD]
      congr 2
    have w8 : IntKind.i64.wrap ((p : Int) + j) = ((p + j : Nat) : Int) := by rw [wi (by omega) (by omega)]; omega
    have w9 : IntKind.i64.wrap ((r : Int) - j) = ((k - (g + j) : Nat) : Int) := by rw [wi (by omega) (by omega)]; omega
    have hWn : V + (v % 2 ^ (g + j)) * 2 ^ n = W + m * 2 ^ p := by
      have := Nat.mod_mul (x := v) (a := 2 ^ g) (b := 2 ^ j)
      rw [Nat.pow_add, this, ← hD, ← hm, Nat.add_mul, hW, hp, Nat.pow_add, Nat.add_assoc]
      congr 2
      rw [Nat.mul_comm (2 ^ g), Nat.mul_assoc, Nat.mul_comm (2 ^ g)]
    have hVn : W + m * 2 ^ p < 2 ^ (p + j) := put_lt hw.hV hmj
    have hj1 : 0 < j := by omega
    have hwl : IntKind.i64.wrap (((p / 8 + 1 : Nat) : Int) - 1) = ((p / 8 : Nat) : Int) := by rw [wi (by omega) (by omega)]; omega
    have hpl := packN_len W p
    by_cases hq0 : q = 0
    · subst hq0
      have hm' : mq = m := by rw [hmqe]; simp
      obtain ⟨v', H1', a1, ho, g1, k1, l1, A1⟩ := hw.open (by omega) hq.symm
      have g1' : H1'.get w = .cells [sv', .int .i64 p] 91 true := g1
      obtain ⟨H2, hH2⟩ : ∃ H2, H2 = H1'.put w (BwB v' p) := ⟨_, rfl⟩
      have s1 : kSt H1' (.pointer (some ⟨w, 0, none⟩)) v' = some H2 := by simp [kSt, g1', ho, hH2, BwB]
      have g2 : H2.get w = BwB v' p := by rw [hH2]; exact get_put_eq l1
      have A2 : Acc 5 1 (w + 1) H2.next H2 v' (p / 8 + 1) (bvs (packN W p ++ [0])) := by
        rw [hH2, next_put]
        exact A1.kp fun k hk _ => get_put_ne (by omega)
      have k2 : Kp w H' H2 := k1.trans (by rw [hH2]; exact Kp.put (Nat.le_refl _))
      obtain ⟨b, c, H3, H4, rfl, t1, t2, t3, t4, t5, t6⟩ := put_tail (W := W) (m := m) (j := j) (y := mq) g2 A2 (by omega) (by
        rw [hm', packN_new hw.hV hmj hq.symm hj1 (by omega), List.set_append_right _ _ (by omega)]
        have : p / 8 - (packN W p).length = 0 := by omega
        rw [this]; rfl) hVn (by omega)
      have g2' : H2.get w = .cells [.slice (some ⟨b, 0, none⟩) (p / 8 + 1) c, .int .i64 p] 91 true := g2
      have g3' : H3.get w = .cells [.slice (some ⟨b, 0, none⟩) (p / 8 + 1) c, .int .i64 p] 91 true := t3
      have hcx : (bvs (packN W p ++ [0]))[p / 8]? = some (.int .u8 0) := by
        have : p / 8 = (packN W p).length := by omega
        rw [this]; simp [bvs, bv]
      have o8 : kBin .or (.int .u8 0) (.int .u8 (mq : Int)) = some (.int .u8 (mq : Int)) := by
        have := kb_orN (k := .u8) (a := 0) (b := mq) (by decide) (by show mq < 2 ^ 8; omega)
        rw [Nat.zero_or, wu8 (by omega) (by omega)] at this
        exact this
      obtain ⟨P8, hP8⟩ : ∃ P8, P8 = p / 8 := ⟨_, rfl⟩
      rw [← hP8] at hwl hcx t2 g2' g3'
      have hgx' : H'.get w = .cells [sv', .int .i64 p] 91 true := hgx
      have w2' : IntKind.i64.wrap 8 = 8 := by decide
      have w3' : min (r : Int) 8 = (j : Int) := by omega
      have o5' : kBin .shl (.int .u8 (m : Int)) (.int .i64 0) = some (.int .u8 (mq : Int)) := o5
      have hP1 : P8 < P8 + 1 := by omega
      have hP1i : (P8 : Int) < P8 + 1 := by omega
      have hwl2 : IntKind.i64.wrap (P8 : Int) = P8 := wi (by omega) (by omega)
      obtain ⟨E, hE⟩ : ∃ E, E = 2 ^ j := ⟨_, rfl⟩
      rw [← hE] at o3 o4 w5
      obtain ⟨v2, hv2⟩ : ∃ v2, v2 = v / 2 ^ (g + j) := ⟨_, rfl⟩
      rw [← hv2] at o7
      obtain ⟨r2, hr2⟩ : ∃ r2, r2 = k - (g + j) := ⟨_, rfl⟩
      rw [← hr2] at w9
      rw [Int.natCast_add] at hwl w8 t4
      simp only [s60_0]
      simp [e0, e1, e2, h3', addOff, hgx', ha7, a1, s1, kFill, evPs, isTup, cellsL, wr, kRow, rd, g2', g3', w2', w3', hP1, hP1i, hwl, hwl2, t1, hcx, o3, w5, o4, w6, o5', o8, t2, o7, w8, t4, w9]
      refine ⟨k - (g + j), by omega, g + j, by omega, rfl, hkp.trans (k2.trans t5), ⟨.slice (some ⟨b, 0, none⟩) (p / 8 + 1) c, ?_⟩, by simp [e0], by simp [hv2], by simp [hr2]⟩
      rw [hWn, ← Nat.add_assoc, ← hp]; exact t6
    · have hqp : 0 < q := by omega
      have hW8 : nby W (p / 8) < 2 ^ q := by
        have h1 := nby_top hw.hV
        rw [← hq] at h1
        exact Nat.lt_of_le_of_lt (Nat.mod_le _ _) h1
      have p7 : 2 ^ q ≤ 2 ^ 7 := Nat.pow_le_pow_right (by omega) (by omega)
      have e7 : (2 : Nat) ^ 7 = 128 := by decide
      obtain ⟨y0, hy0⟩ : ∃ y0, y0 = nby W (p / 8) := ⟨_, rfl⟩
      rw [← hy0] at hW8
      have hyb : y0 + mq < 256 := by
        have h1 : (m + 1) * 2 ^ q ≤ 2 ^ j * 2 ^ q := Nat.mul_le_mul_right _ hmj
        have h2 : 2 ^ j * 2 ^ q ≤ 2 ^ 8 := by rw [← Nat.pow_add]; exact Nat.pow_le_pow_right (by omega) (by omega)
        rw [Nat.succ_mul] at h1; omega
      have hA' : Acc 5 1 (w + 1) H'.next H' sv' (p / 8 + 1) (bvs (packN W p)) := by
        have e : p / 8 + 1 = (p + 7) / 8 := by omega
        rw [e]; exact hw.a
      obtain ⟨b, c, H3, H4, rfl, t1, t2, t3, t4, t5, t6⟩ := put_tail (W := W) (m := m) (j := j) (y := y0 + mq) hgx hA' (by omega) (by
        rw [packN_on hw.hV hmj (by omega) hj1 (by omega), hy0, hmqe, ← hq]) hVn (by omega)
      have g2' : H'.get w = .cells [.slice (some ⟨b, 0, none⟩) (p / 8 + 1) c, .int .i64 p] 91 true := hgx
      have g3' : H3.get w = .cells [.slice (some ⟨b, 0, none⟩) (p / 8 + 1) c, .int .i64 p] 91 true := t3
      have hcx : (bvs (packN W p))[p / 8]? = some (.int .u8 (y0 : Int)) := by
        have := packN_get (V := W) (n := p) (j := p / 8) (by omega)
        simp only [bvs, List.getElem?_map, this, Option.map_some, bv]
        rw [← hy0]
        have : (UInt8.ofNat y0).toNat = y0 := by simp; omega
        rw [this]
      have o8 : kBin .or (.int .u8 (y0 : Int)) (.int .u8 (mq : Int)) = some (.int .u8 ((y0 + mq : Nat) : Int)) := by
        have := kb_orN (k := .u8) (a := y0) (b := mq) (by show y0 < 2 ^ 8; omega) (by show mq < 2 ^ 8; omega)
        rw [hmqe, or_high hW8, ← hmqe, wu8 (by omega) (by omega)] at this
        exact this
      obtain ⟨P8, hP8⟩ : ∃ P8, P8 = p / 8 := ⟨_, rfl⟩
      rw [← hP8] at hwl hcx t2 g2' g3'
      have hP1 : P8 < P8 + 1 := by omega
      have hP1i : (P8 : Int) < P8 + 1 := by omega
      have hwl2 : IntKind.i64.wrap (P8 : Int) = P8 := wi (by omega) (by omega)
      obtain ⟨E, hE⟩ : ∃ E, E = 2 ^ j := ⟨_, rfl⟩
      rw [← hE] at o3 o4 w5
      obtain ⟨v2, hv2⟩ : ∃ v2, v2 = v / 2 ^ (g + j) := ⟨_, rfl⟩
      rw [← hv2] at o7
      obtain ⟨r2, hr2⟩ : ∃ r2, r2 = k - (g + j) := ⟨_, rfl⟩
      rw [← hr2] at w9
      obtain ⟨y1, hy1⟩ : ∃ y1, y1 = y0 + mq := ⟨_, rfl⟩
      rw [← hy1] at o8 t2
      rw [Int.natCast_add] at hwl w8 t4
      simp only [s60_0]
      simp [e0, e1, e2, h3', addOff, ha7, g2', g3', w2, w3, hP1, hP1i, hwl, hwl2, t1, hcx, o3, w5, o4, w6, o5, o8, t2, o7, w8, t4, w9, hq0]
      refine ⟨k - (g + j), by omega, g + j, by omega, rfl, hkp.trans t5, ⟨.slice (some ⟨b, 0, none⟩) (p / 8 + 1) c, ?_⟩, by simp [e0], by simp [hv2], by simp [hr2]⟩
      rw [hWn, ← Nat.add_assoc, ← hp]; exact t6
  · have h5 : g = k := by omega
    subst h5
    simp [s60_0, e2]
    exact ⟨hkp, sv', hw⟩
end
end Go.Proofs.YtlboioplemlneaaGreat.K
/- Bytes by codes: what the program writes, and what the document says. -/
set_option maxRecDepth 100000
set_option maxHeartbeats 2000000
set_option linter.unusedVariables false
set_option linter.unusedSimpArgs false
namespace Go.Proofs.YtlboioplemlneaaGreat.K
open Go Go.Proofs
/-- bytes that may be read -/
def Bv (H : Heap) (a : Option Addr) (l : Bytes) : Prop := 0 < l.length → ∃ b o cs rw, a = some ⟨b, o, none⟩ ∧ H.get b = .cells cs 5 rw ∧ ∀ (i : Nat) x, l[i]? = some x → cs[o + i]? = some (bv x)
theorem Bv.kp {H H' : Heap} {a : Option Addr} {l : Bytes} (h : Bv H a l) (hk : Kp H.next H H') : Bv H' a l := fun hp => by
  obtain ⟨b, o, cs, rw, h1, h2, h3⟩ := h hp
  exact ⟨b, o, cs, rw, h1, (hk.2 b (lt_cells h2)).trans h2, h3⟩
def encB (l : List Int) (b : Bytes) : List Int := b.flatMap fun x => codeB l x.toNat
theorem encB_succ {l : List Int} {b : Bytes} {i : Nat} {x : UInt8} (h : b[i]? = some x) : encB l (b.take (i + 1)) = encB l (b.take i) ++ codeB l x.toNat := by
  rw [List.take_add_one, h]; simp [encB]
/-- has each byte a code? -/
def okB (l : List Int) (b : Bytes) : Prop := ∀ x ∈ b, 0 < at0 l x.toNat
theorem okB_succ {l : List Int} {b : Bytes} {i : Nat} {x : UInt8} (h : b[i]? = some x) : okB l (b.take (i + 1)) ↔ okB l (b.take i) ∧ 0 < at0 l x.toNat := by
  rw [List.take_add_one, h]
  simp only [okB, List.mem_append, Option.toList_some, List.mem_singleton]
  exact ⟨fun hh => ⟨fun y hy => hh y (.inl hy), hh x (.inr rfl)⟩, fun ⟨h1, h2⟩ y hy => by rcases hy with hy | rfl; exact h1 y hy; exact h2⟩
theorem okB_no {l : List Int} {b : Bytes} {i : Nat} {x : UInt8} (h : b[i]? = some x) (h0 : ¬ 0 < at0 l x.toNat) : ¬ okB l b := fun hh => h0 (hh x (List.mem_of_getElem? h))
/-- bytes that hold just these bits -/
def Packs (bits : List Int) (s : Bytes) : Prop := ∃ V, V < 2 ^ bits.length ∧ bitsN V bits.length = bits ∧ s = packN V bits.length
theorem codeB_len {l : List Int} {s : Nat} : (codeB l s).length = (at0 l s).toNat := by simp [codeB, topB]
theorem encB_le {l : List Int} (hall : ∀ k, 0 ≤ at0 l k ∧ at0 l k ≤ 11) : ∀ b : Bytes, (encB l b).length ≤ 11 * b.length
  | [] => by simp [encB]
  | x :: b => by
    have := encB_le hall b
    have e : encB l (x :: b) = codeB l x.toNat ++ encB l b := rfl
    have := hall x.toNat
    rw [e, List.length_append, codeB_len, List.length_cons]; omega
section
variable {H : Heap} {a a2 : Option Addr} {c c2 : Nat} {l : List Int} {b : Bytes}
structure EnI (H0 : Heap) (w : Nat) (a a2 : Option Addr) (c c2 : Nat) (l : List Int) (b : Bytes) (cb : Nat) (d : Nat) (e : Fe) (H : Heap) (i : Nat) : Prop where
  h1 : i ≤ b.length
  h2 : d = b.length - i
  kp : Kp w H0 H
  r : ∃ V sv, Wr H w V (encB l (b.take i)).length sv ∧ bitsN V (encB l (b.take i)).length = encB l (b.take i)
  ok : okB l (b.take i)
  e0 : e 0 = .slice a l.length c
  e6 : e 6 = .slice (some ⟨cb, 0, none⟩) l.length l.length
  e8 : e 8 = .pointer (some ⟨w, 0, none⟩)
  e18 : e 18 = .slice a2 b.length c2
  e19 : e 19 = .int .i64 b.length
  e20 : e 20 = .int .i64 i
theorem Encode_t (hl : Iv H a l) (hm : (l.length : Int) ≤ 9223372036854775807) (hb : Bv H a2 b) (hbl : b.length ≤ 5000) :
    Wf S 33 [.slice a l.length c, .slice a2 b.length c2] H fun v H' => Kp H.next H H' ∧
      ((wholeB l = true ∧ okB l b ∧ ∃ s, v = .tuple #[.string (ofL s), .bool true] ∧ Packs (encB l b) s) ∨ (¬ (wholeB l = true ∧ okB l b) ∧ v = .tuple #[.string (ofL []), .bool false])) := by
  refine w33 rfl rfl _ _ ?_
  simp [s33]
  refine (Codes_t hl hm).mono ?_
  rintro v H1 ⟨hk1, h⟩
  rcases h with ⟨hw, rfl⟩ | ⟨hw, cb, rfl, hcb, ho⟩
  · simp [hw, tup, bs_ofL]; exact hk1
  have hr : rightB l = true := by simp only [wholeB, Bool.and_eq_true] at hw; exact hw.1
  have hlen := right_len hr
  have hall := right_all hr
  have hl1 := hl.kp hk1
  have hb1 := hb.kp hk1
  have hcbl : cb < H1.next := lt_cells ho
  simp [hw]
  have hky : Kp H1.next H1 (H1.push (BwB (.slice none 0 0) 0)) := Kp.push (Nat.le_refl _)
  have hgy : (H1.push (BwB (.slice none 0 0) 0)).get H1.next = BwB (.slice none 0 0) 0 := get_last
  have hny : (H1.push (BwB (.slice none 0 0) 0)).next = H1.next + 1 := next_push
  have hWr : Wr (H1.push (BwB (.slice none 0 0) 0)) H1.next 0 0 (.slice none 0 0) := ⟨hgy, by simpa [packN, bvs] using Acc.nil, by decide⟩
  have hl2 := hl1.kp hky
  have hb2 := hb1.kp hky
  have e1 : H1.push (.cells [.slice none 0 0, .int .i64 0] 91 true) = H1.push (BwB (.slice none 0 0) 0) := rfl
  rw [e1]
  generalize H1.push (BwB (.slice none 0 0) 0) = H2 at *
  refine l33_0 S (fun d e H' => ∃ i, EnI H2 H1.next a a2 c c2 l b cb d e H' i) b.length ⟨0, by omega, by omega, Kp.refl _ _, ⟨0, _, by simpa [encB] using hWr, by simp [encB, bitsN]⟩, by simp [okB], by simp, by simp, by simp, by simp, by simp, by simp⟩ ?_
  rintro d e H' ⟨i, hi, rfl, hkp, ⟨V, sv, hWr, hbits⟩, hok, e0, e6, e8, e18, e19, e20⟩
  have hl3 : Iv H' a l := fun hp => by
    obtain ⟨q1, q2, q3, q4, q5, q6, q7⟩ := hl1 hp
    obtain ⟨r1, r2, r3, r4, r5, r6, r7⟩ := hl2 hp
    have hq : q1 < H1.next := lt_cells q6
    rw [q5] at r5; cases r5
    exact ⟨_, _, _, _, q5, (hkp.2 _ hq).trans r6, r7⟩
  have hb3 : Bv H' a2 b := fun hp => by
    obtain ⟨q1, q2, q3, q4, q5, q6, q7⟩ := hb1 hp
    obtain ⟨r1, r2, r3, r4, r5, r6, r7⟩ := hb2 hp
    have hq : q1 < H1.next := lt_cells q6
    rw [q5] at r5; cases r5
    exact ⟨_, _, _, _, q5, (hkp.2 _ hq).trans r6, r7⟩
  have ho3 : H'.get cb = .cells (ints (codes l)) 3 true := (hkp.2 _ hcbl).trans ((hky.2 _ hcbl).trans ho)
  by_cases h3 : i < b.length
  · obtain ⟨bb, o, cs, rw, rfl, hg, hc⟩ := hb3 (by omega)
    obtain ⟨x, hx⟩ : ∃ x, b[i]? = some x := ⟨_, List.getElem?_eq_getElem h3⟩
    have hcx := hc i x hx
    have hxb := x.toNat_lt
    have w2 : IntKind.i64.wrap ((i : Int) + 1) = (i : Int) + 1 := wi (by omega) (by omega)
    obtain ⟨k, hk⟩ : ∃ k, k = x.toNat := ⟨_, rfl⟩
    rw [← hk] at hxb
    have wk : IntKind.i64.wrap (k : Int) = k := wi (by omega) (by omega)
    have hcx' : cs[o + i]? = some (.int .u8 k) := by rw [hcx, bv, hk]
    by_cases hkl : k < l.length
    · obtain ⟨y, hy⟩ : ∃ y, l[k]? = some y := ⟨_, List.getElem?_eq_getElem hkl⟩
      obtain ⟨b2, o2, cs2, rw2, rfl, hg2, hc2⟩ := hl3 (by omega)
      have hcy := hc2 k y hy
      have hay := at0_of hy
      have hyb := hall k
      rw [hay] at hyb
      have hkl' : ¬ (l.length : Int) ≤ k := by omega
      by_cases hy0 : y = 0
      · have hno : ¬ okB l b := okB_no hx (by rw [← hk, hay, hy0]; omega)
        simp [s33_0, e0, e6, e8, e18, e19, e20, h3, addOff, hg, hcx', wk, hkl, hkl', hg2, hcy, hy0, tup, bs_ofL, hno]
        exact hk1.trans ((hky.mono hk1.1).trans (hkp.mono hk1.1))
      · have hy1 : 0 < y := by omega
        obtain ⟨n, hn⟩ : ∃ n : Nat, y = (n : Int) := ⟨y.toNat, by omega⟩
        have hco : codeOf l k = codeAt l n k := by unfold codeOf; rw [hay, if_pos hy1, hn]; rfl
        have hcb2 := code_bd hall hlen (n := n) (s := k) (by omega) (by omega) (by omega)
        rw [← hco] at hcb2
        obtain ⟨q, hq⟩ : ∃ q : Nat, codeOf l k = (q : Int) := ⟨(codeOf l k).toNat, by omega⟩
        have hcq : (ints (codes l))[k]? = some (.int .i64 (q : Int)) := by simp [ints, codes, hkl, hq]
        have hcB : codeB l x.toNat = topB q n n := by unfold codeB; rw [← hk, hay, hq, hn]; simp
        subst hn
        have hn0 : ¬ n = 0 := by omega
        simp [s33_0, e0, e6, e8, e18, e19, e20, h3, addOff, hg, hcx', wk, hkl, hkl', hg2, hcy, hn0, ho3, hcq]
        refine (turned_t q n (by omega) (by omega)).mono ?_
        rintro v H4 ⟨rfl, rfl⟩
        have hev : evI [] 0 none = some 0 := rfl
        simp [ck, kop, kLd, hg2, hcy, veq, veq1]
        have hble := encB_le hall (b.take i)
        have hbl2 : (b.take i).length ≤ b.length := by rw [List.length_take]; omega
        have htl := turnN_lt q n
        have p11 : 2 ^ n ≤ 2 ^ 11 := Nat.pow_le_pow_right (by omega) (by omega)
        have e11 : (2 : Nat) ^ 11 = 2048 := by decide
        refine (Put_t hWr (by omega) (turnN q n) n (by omega) (by omega)).mono ?_
        rintro v H5 ⟨rfl, hk5, sv5, hW5⟩
        rw [Nat.mod_eq_of_lt htl] at hW5
        simp [w2]
        have hlen2 : (encB l (b.take (i + 1))).length = (encB l (b.take i)).length + n := by rw [encB_succ hx, List.length_append, hcB]; simp [topB]
        refine ⟨b.length - (i + 1), by omega, i + 1, by omega, rfl, hkp.trans hk5, ⟨V + turnN q n * 2 ^ (encB l (b.take i)).length, sv5, by rw [hlen2]; exact hW5, ?_⟩, (okB_succ hx).2 ⟨hok, by rw [← hk, hay]; exact hy1⟩, by simp [e0], by simp [e6], by simp [e8], by simp [e18], by simp [e19], by simp⟩
        rw [hlen2, bitsN_put hWr.hV, hbits, turn_bits, encB_succ hx, hcB]
    · have hno : ¬ okB l b := okB_no hx (by
        rw [← hk]; unfold at0; rw [List.getD_eq_getElem?_getD, List.getElem?_eq_none (by omega)]; simp)
      have hkl' : (l.length : Int) ≤ k := by omega
      have hkl2 : l.length ≤ k := by omega
      simp [s33_0, e0, e6, e8, e18, e19, e20, h3, addOff, hg, hcx', wk, hkl, hkl', hkl2, tup, bs_ofL, hno]
      exact hk1.trans ((hky.mono hk1.1).trans (hkp.mono hk1.1))
  · have h5 : i = b.length := by omega
    subst h5
    rw [List.take_length] at hWr hbits hok
    obtain ⟨a5, c5, rfl, hrow⟩ := hWr.a.row
    have hble := encB_le hall b
    simp [s33_0, e8, e19, e20]
    refine (WBytes_t hWr.hx hrow (by rw [bvs_len, packN_len]) (by omega)).mono ?_
    rintro v H5 ⟨hk5, hA5⟩
    obtain ⟨a6, c6, rfl, hrow6⟩ := hA5.row
    have hrow6' : kRow H5 5 1 (packN V (encB l b).length).length a6 = some (bvs (packN V (encB l b).length)) := by rw [packN_len]; exact hrow6
    have hb6 := fun K => s_b2s (S := S) (e := []) (K := K) (c := c6) hrow6'
    rw [packN_len] at hb6
    have hpe : Packs (encB l b) (packN V (encB l b).length) := ⟨V, hWr.hV, hbits, rfl⟩
    generalize packN V (encB l b).length = pk at *
    simp [hb6, hw, hok, tup]
    refine ⟨hk1.trans ((hky.mono hk1.1).trans ((hkp.mono hk1.1).trans (hk5.mono ?_))), pk, rfl, hpe⟩
    have := hky.1; have := hkp.1; have := hk1.1; omega
end
end Go.Proofs.YtlboioplemlneaaGreat.K
/- Bits as numbers; (plain part of the document's Encode). Bytes by codes, as the document writes them. -/
set_option maxRecDepth 100000
set_option maxHeartbeats 2000000
set_option linter.unusedVariables false
set_option linter.unusedSimpArgs false
namespace Go.Proofs.YtlboioplemlneaaGreat.K
open Go Go.Proofs
theorem bits_num {bits : List Int} (h : ∀ x ∈ bits, x = 0 ∨ x = 1) : ∃ V, V < 2 ^ bits.length ∧ bitsN V bits.length = bits := by
  have key : ∀ i, i ≤ bits.length → ∃ V, V < 2 ^ i ∧ bitsN V i = bits.take i := by
    intro i
    induction i with
    | zero => intro _; exact ⟨0, by simp, by simp [bitsN]⟩
    | succ i ih =>
      intro hi
      obtain ⟨V, hV, hb⟩ := ih (by omega)
      obtain ⟨x, hx⟩ : ∃ x, bits[i]? = some x := ⟨_, List.getElem?_eq_getElem (by omega)⟩
      have hx01 := h x (List.mem_of_getElem? hx)
      refine ⟨V + x.toNat * 2 ^ i, ?_, ?_⟩
      · exact put_lt hV (by omega)
      · rw [bitsN_put hV, hb, List.take_add_one, hx]
        rcases hx01 with rfl | rfl <;> rfl
  obtain ⟨V, h1, h2⟩ := key bits.length (Nat.le_refl _)
  rw [List.take_length] at h2
  exact ⟨V, h1, h2⟩
theorem codeB_01 {l : List Int} {s : Nat} : ∀ x ∈ codeB l s, x = 0 ∨ x = 1 := by
  intro x hx
  simp only [codeB, topB, List.mem_map] at hx
  obtain ⟨i, _, rfl⟩ := hx
  omega
theorem encB_01 {l : List Int} {b : Bytes} : ∀ x ∈ encB l b, x = 0 ∨ x = 1 := by
  intro x hx
  simp only [encB, List.mem_flatMap] at hx
  obtain ⟨y, _, hx⟩ := hx
  exact codeB_01 x hx
theorem ivs_get {l : List Int} {i : Nat} {x : Int} (h : l[i]? = some x) : (ivs l)[i]? = some (.int .i64 x) := by simp [ivs, h]
/-- numbers that were gathered may be read -/
theorem Acc.iv {N M n : Nat} {H : Heap} {v : Value} {l : List Int} (h : Acc 3 1 N M H v n (ivs l)) : ∃ a c, v = .slice a n c ∧ n = l.length ∧ Iv H a l := by
  rcases h with ⟨rfl, h2, rfl⟩ | ⟨b, c, h1, h2, h3, h4, h5, h6⟩
  · have : l = [] := by simpa [ivs] using h2
    subst this
    exact ⟨none, 0, rfl, rfl, fun hp => by simp at hp⟩
  · exact ⟨_, c, h3, by simpa [ivs] using h6.symm, fun _ => ⟨b, 0, _, true, rfl, h5, fun i x hx => by rw [Nat.zero_add]; exact ivs_get hx⟩⟩
end Go.Proofs.YtlboioplemlneaaGreat.K
/- Which symbol's code comes next, plainly; decoding, plainly. -/
set_option maxRecDepth 100000
set_option maxHeartbeats 2000000
set_option linter.unusedVariables false
set_option linter.unusedSimpArgs false
namespace Go.Proofs.YtlboioplemlneaaGreat.K
open Go Go.Proofs
/-- does the code of symbol k begin at a? -/
def Beg (l : List Int) (s : Bytes) (a k : Nat) : Prop := k < l.length ∧ 0 < at0 l k ∧ a + (at0 l k).toNat ≤ 8 * s.length ∧ revB s a (at0 l k).toNat = (codeOf l k).toNat
theorem rev_div (s : Bytes) (a n : Nat) : ∀ m, revB s a (n + m) / 2 ^ m = revB s a n
  | 0 => by simp
  | m + 1 => by
    have hb := bitAt_lt s (a + (n + m))
    rw [← Nat.add_assoc, Nat.pow_succ, Nat.mul_comm (2 ^ m), ← Nat.div_div_eq_div_mul]
    simp only [revB]
    have : (2 * revB s a (n + m) + bitAt s (a + (n + m))) / 2 = revB s a (n + m) := by omega
    rw [this, rev_div s a n m]
theorem code_nn {l : List Int} (hall : ∀ k, 0 ≤ at0 l k ∧ at0 l k ≤ 11) (hlen : l.length ≤ 256) {k : Nat} (hk : k < l.length) : 0 ≤ codeOf l k := by
  unfold codeOf
  split
  · rename_i h
    have := hall k
    exact (code_bd hall hlen (n := (at0 l k).toNat) (s := k) (by omega) (by omega) (by omega)).1
  · omega
theorem beg_le {l : List Int} (hr : rightB l = true) {s : Bytes} {a k k' : Nat} (h : Beg l s a k) (h' : Beg l s a k') (hle : at0 l k ≤ at0 l k') : k = k' := by
  have hall := right_all hr
  have hlen := right_len hr
  obtain ⟨h1, h2, h3, h4⟩ := h
  obtain ⟨q1, q2, q3, q4⟩ := h'
  by_cases hne : k = k'
  · exact hne
  · exfalso
    have hp := pre_ne hall h1 q1 h2 q2 hle hne
    have c1 := code_nn hall hlen h1
    have c2 := code_nn hall hlen q1
    apply hp
    have hd := rev_div s a (at0 l k).toNat (at0 l k' - at0 l k).toNat
    have e : (at0 l k).toNat + (at0 l k' - at0 l k).toNat = (at0 l k').toNat := by omega
    rw [e, q4, h4] at hd
    have hpp := p2_pos (at0 l k' - at0 l k).toNat
    rw [Int.fdiv_eq_ediv_of_nonneg _ (by omega)]
    have e2 : p2 (at0 l k' - at0 l k).toNat = ((2 ^ (at0 l k' - at0 l k).toNat : Nat) : Int) := by unfold p2; exact_mod_cast rfl
    rw [e2]
    have e3 : codeOf l k' = ((codeOf l k').toNat : Int) := by omega
    rw [e3, ← Int.natCast_ediv, hd]; omega
theorem beg_uniq {l : List Int} (hr : rightB l = true) {s : Bytes} {a k k' : Nat} (h : Beg l s a k) (h' : Beg l s a k') : k = k' := by
  rcases Int.le_total (at0 l k) (at0 l k') with hle | hle
  · exact beg_le hr h h' hle
  · exact (beg_le hr h' h hle).symm
theorem sym_ex {l : List Int} {n : Nat} : ∀ s j, j < cntS l n s → ∃ k, k < s ∧ at0 l k = n ∧ cntS l n k = j
  | 0, j, h => by simp [cntS] at h
  | s + 1, j, h => by
    simp only [cntS] at h
    by_cases h1 : j < cntS l n s
    · obtain ⟨k, q1, q2, q3⟩ := sym_ex s j h1
      exact ⟨k, by omega, q2, q3⟩
    · split at h
      · rename_i he
        exact ⟨s, by omega, he, by omega⟩
      · omega
theorem cnt_lt {l : List Int} {n : Nat} {k : Nat} (he : at0 l k = n) : ∀ s, k < s → cntS l n k < cntS l n s
  | 0, h => by omega
  | s + 1, h => by
    simp only [cntS]
    by_cases h1 : k = s
    · subst h1; rw [if_pos he]; omega
    · have := cnt_lt he s (by omega)
      omega
theorem ord_pre {l : List Int} {n : Nat} (h1 : 1 ≤ n) (s : Nat) : ∀ t, ordAt l n s <+: ordAt l n (s + t)
  | 0 => List.prefix_refl _
  | t + 1 => (ord_pre h1 s t).trans (by rw [← Nat.add_assoc, ordAt_succ h1]; exact List.prefix_append _ _)
theorem ord_next {l : List Int} (n : Nat) : ordAt l (n + 1) 0 = ordAt l n l.length := by simp [ordAt]
theorem ord_pre2 {l : List Int} {n : Nat} (h1 : 1 ≤ n) : ∀ m, ordAt l (n + 1) 0 <+: ordAt l (n + 1 + m) 0
  | 0 => List.prefix_refl _
  | m + 1 => (ord_pre2 h1 m).trans (by
    rw [← Nat.add_assoc, ord_next (n + 1 + m)]
    have := ord_pre (l := l) (n := n + 1 + m) (by omega) 0 l.length
    rw [Nat.zero_add] at this; exact this)
theorem ord_at {l : List Int} {n k : Nat} (h1 : 1 ≤ n) (h2 : n ≤ 11) (hk : k < l.length) (he : at0 l k = n) : (ordAt l 12 0)[(ordAt l n 0).length + cntS l n k]? = some (UInt8.ofNat k) := by
  have e1 : (ordAt l n 0).length + cntS l n k = (ordAt l n k).length := by
    obtain ⟨m, rfl⟩ : ∃ m, n = m + 1 := ⟨n - 1, by omega⟩
    exact (ordAt_len l m k).symm
  have e2 : ordAt l n (k + 1) <+: ordAt l 12 0 := by
    obtain ⟨t, ht⟩ := Nat.exists_eq_add_of_le (show k + 1 ≤ l.length by omega)
    have p1 := ord_pre (l := l) h1 (k + 1) t
    rw [← ht, ← ord_next] at p1
    obtain ⟨m, hm⟩ := Nat.exists_eq_add_of_le (show n + 1 ≤ 12 by omega)
    have p2 := ord_pre2 (l := l) h1 m
    rw [← hm] at p2
    exact p1.trans p2
  rw [e1]
  obtain ⟨r, hr⟩ := e2
  rw [← hr, ordAt_succ h1, if_pos he]
  simp
/-- a length's code that is met is a symbol's -/
theorem hit_sym {l : List Int} (hr : rightB l = true) {s : Bytes} {a n : Nat} (h1 : 1 ≤ n) (h2 : n ≤ 11) (hn : a + n ≤ 8 * s.length) (h : Hit (Fq l 12) (Cq l 12) s a n) :
    ∃ k, Beg l s a k ∧ at0 l k = n ∧ (ordAt l 12 0).getD (Sq l 12 n + (revB s a n - Fq l 12 n)) 0 = UInt8.ofNat k := by
  have hall := right_all hr
  have hlen := right_len hr
  have f1 : Fq l 12 n = (codeAt l n 0).toNat := by unfold Fq; rw [if_pos (by omega)]
  have f2 : Cq l 12 n = cntS l n l.length := by unfold Cq; rw [if_pos (by omega)]
  have f3 : Sq l 12 n = (ordAt l n 0).length := by unfold Sq; rw [if_pos (by omega)]
  obtain ⟨q1, q2⟩ := h
  rw [f1, f2] at q2
  rw [f1] at q1
  obtain ⟨k, k1, k2, k3⟩ := sym_ex (l := l) (n := n) l.length (revB s a n - (codeAt l n 0).toNat) (by omega)
  have hb := code_bd hall hlen h1 h2 (Nat.zero_le l.length)
  refine ⟨k, ⟨k1, by rw [k2]; omega, by rw [k2]; omega, ?_⟩, k2, ?_⟩
  · have e : (at0 l k).toNat = n := by omega
    have hc : codeOf l k = codeAt l n k := by unfold codeOf; rw [if_pos (by omega), e]
    obtain ⟨m, rfl⟩ : ∃ m, n = m + 1 := ⟨n - 1, by omega⟩
    rw [e, hc, codeAt_cnt, k3]; omega
  · rw [f1, f3, ← k3, List.getD_eq_getElem?_getD, ord_at h1 h2 k1 k2]; rfl
theorem beg_hit {l : List Int} (hr : rightB l = true) {s : Bytes} {a k : Nat} (h : Beg l s a k) : Hit (Fq l 12) (Cq l 12) s a (at0 l k).toNat := by
  have hall := right_all hr
  have hlen := right_len hr
  obtain ⟨h1, h2, h3, h4⟩ := h
  have hk := hall k
  obtain ⟨n, hn⟩ : ∃ n, n = (at0 l k).toNat := ⟨_, rfl⟩
  have hat : at0 l k = n := by omega
  rw [← hn] at h4 ⊢
  have f1 : Fq l 12 n = (codeAt l n 0).toNat := by unfold Fq; rw [if_pos (by omega)]
  have f2 : Cq l 12 n = cntS l n l.length := by unfold Cq; rw [if_pos (by omega)]
  have hc : codeOf l k = codeAt l n k := by unfold codeOf; rw [if_pos (by omega), ← hn]
  have hb := code_bd hall hlen (n := n) (by omega) (by omega) (Nat.zero_le l.length)
  have hl := cnt_lt hat l.length h1
  obtain ⟨m, rfl⟩ : ∃ m, n = m + 1 := ⟨n - 1, by omega⟩
  have := codeAt_cnt l m k
  unfold Hit
  rw [f1, f2, h4, hc, this]
  omega
open Classical in
/-- i symbols, one behind the other: which ones, and how many bits they took -/
noncomputable def decI (l : List Int) (s : Bytes) : Nat → Option (Bytes × Nat)
  | 0 => some ([], 0)
  | i + 1 => (decI l s i).bind fun p => if h : ∃ k, Beg l s p.2 k then some (p.1 ++ [UInt8.ofNat h.choose], p.2 + (at0 l h.choose).toNat) else none
theorem decI_hit {l : List Int} (hr : rightB l = true) {s : Bytes} {i a k : Nat} {d : Bytes} (h : decI l s i = some (d, a)) (hb : Beg l s a k) : decI l s (i + 1) = some (d ++ [UInt8.ofNat k], a + (at0 l k).toNat) := by
  have hx : ∃ k, Beg l s a k := ⟨k, hb⟩
  have e : hx.choose = k := beg_uniq hr hx.choose_spec hb
  simp only [decI, h, Option.bind_some]
  rw [dif_pos hx, e]
theorem decI_miss {l : List Int} {s : Bytes} {i a : Nat} {d : Bytes} (h : decI l s i = some (d, a)) (hb : ∀ k, ¬ Beg l s a k) : decI l s (i + 1) = none := by
  simp only [decI, h, Option.bind_some]
  rw [dif_neg (fun ⟨k, hk⟩ => hb k hk)]
theorem decI_none {l : List Int} {s : Bytes} {i : Nat} (h : decI l s i = none) : ∀ m, decI l s (i + m) = none
  | 0 => h
  | m + 1 => by
    have := decI_none h m
    rw [← Nat.add_assoc]
    simp only [decI, this, Option.bind_none]
theorem decI_inv {l : List Int} (hr : rightB l = true) {s : Bytes} : ∀ i d a, decI l s i = some (d, a) → d.length = i ∧ a ≤ 8 * s.length ∧ (bitsB s).take a = encB l d ∧ okB l d
  | 0, d, a, h => by simp [decI] at h; obtain ⟨rfl, rfl⟩ := h; exact ⟨rfl, by omega, by simp [encB], by simp [okB]⟩
  | i + 1, d, a, h => by
    have hall := right_all hr
    have hlen := right_len hr
    simp only [decI, Option.bind_eq_some_iff] at h
    obtain ⟨⟨d0, a0⟩, h0, h⟩ := h
    obtain ⟨q1, q2, q3, q4⟩ := decI_inv hr i d0 a0 h0
    split at h
    · rename_i hx
      have hb := hx.choose_spec
      generalize hx.choose = k at h hb
      simp only [Option.some.injEq, Prod.mk.injEq] at h
      obtain ⟨rfl, rfl⟩ := h
      obtain ⟨b1, b2, b3, b4⟩ := hb
      have hkn : (UInt8.ofNat k).toNat = k := by simp; omega
      have hcn := code_nn hall hlen b1
      refine ⟨by simp [q1], by simpa using b3, ?_, ?_⟩
      · have e : encB l (d0 ++ [UInt8.ofNat k]) = encB l d0 ++ codeB l k := by simp [encB, hkn]
        have hc : (codeOf l k).toNat < 2 ^ (at0 l k).toNat := by rw [← b4]; exact revB_lt s a0 _
        have hbi := (begins_iff (s := s) (a := a0) (c := (codeOf l k).toNat) (n := (at0 l k).toNat) hc b3).2 b4
        rw [e, ← q3, List.take_add]
        congr 1
      · intro x hx
        rcases List.mem_append.1 hx with hx | hx
        · exact q4 x hx
        · simp only [List.mem_singleton] at hx; subst hx; rw [hkn]; exact b2
    · cases h
/-- what n symbols are, if but a few noughts stand behind them -/
noncomputable def decF (l : List Int) (s : Bytes) (n : Nat) : Option Bytes := (decI l s n).bind fun p => if 8 * s.length - p.2 ≤ 7 ∧ numB s p.2 (8 * s.length - p.2) = 0 then some p.1 else none
end Go.Proofs.YtlboioplemlneaaGreat.K
/- Bytes of a code, as the program reads them. -/
set_option maxRecDepth 100000
set_option maxHeartbeats 2000000
set_option linter.unusedVariables false
set_option linter.unusedSimpArgs false
namespace Go.Proofs.YtlboioplemlneaaGreat.K
open Go Go.Proofs
theorem Rx.of {H H' : Heap} {x b : Nat} {F C St : Nat → Nat} {o : Bytes} (h : Rx H x b F C St o) (hk : ∀ k, k < H.next → k ≠ b → H'.get k = H.get k) : Rx H' x b F C St o := by
  obtain ⟨cs, oa, oc, h1, h2, h3, h4, h5, h6, h7⟩ := h
  refine ⟨cs, oa, oc, (hk x (lt_cells h1) h2).trans h1, h2, h3, h4, h5, h6, fun hp => ?_⟩
  obtain ⟨ob, q1, q2, q3⟩ := h7 hp
  exact ⟨ob, q1, q2, (hk ob (lt_cells q3) q2).trans q3⟩
theorem By.of {H H' : Heap} {b : Nat} {sv : Value} {s : Bytes} (h : By H b sv s) (hk : ∀ k, k < H.next → k ≠ b → H'.get k = H.get k) : By H' b sv s := by
  obtain ⟨a, c, h1, h2⟩ := h
  refine ⟨a, c, h1, fun hp => ?_⟩
  obtain ⟨bb, q1, q2, q3⟩ := h2 hp
  exact ⟨bb, q1, q2, (hk bb (lt_cells q3) q2).trans q3⟩
/-- a reader of codes that was made ready -/
theorem Rc.rx {H0 H : Heap} {N : Nat} {F C St : Nat → Nat} {o : Bytes} {cs : List Value} {ov : Value} (h : Rc H0 N F C St o H cs ov) {b : Nat} (hb : H.next ≤ b) : Rx H N b F C St o := by
  have hlt := h.lt
  obtain ⟨a, c, rfl, ha⟩ := h.a.len
  refine ⟨cs, a, c, h.hx, by omega, h.f, h.c, h.s, h.od, fun hp => ?_⟩
  obtain ⟨ob, q1, q2⟩ := ha hp
  exact ⟨ob, q1, by have := lt_cells q2; omega, q2⟩
section
variable {H : Heap} {a : Option Addr} {c : Nat} {l : List Int} {s : Bytes}
structure DecJ (HB : Heap) (x b : Nat) (sv : Value) (l : List Int) (s : Bytes) (n : Nat) (d : Nat) (e : Fe) (H : Heap) (i : Nat) : Prop where
  h1 : i ≤ n
  h2 : d = n - i
  r : ∃ t at_, decI l s i = some (t, at_) ∧ H.get b = BrB sv at_ ∧ Acc 5 1 HB.next H.next H (e 10) i (bvs t)
  nx : HB.next ≤ H.next
  kp : ∀ k, k < HB.next → k ≠ b → H.get k = HB.get k
  e8 : e 8 = .pointer (some ⟨x, 0, none⟩)
  e9 : e 9 = .pointer (some ⟨b, 0, none⟩)
  e32 : e 32 = .int .i64 n
  e33 : e 33 = .int .i64 i
theorem Decode_t (hl : Iv H a l) (hm : (l.length : Int) ≤ 9223372036854775807) (hs : s.length ≤ 100000) (n : Int) :
    Wf S 51 [.slice a l.length c, .string (ofL s), .int .i64 n] H fun v H' => Kp H.next H H' ∧
      if wholeB l = true ∧ 0 ≤ n ∧ n ≤ 1048576 then
        match decF l s n.toNat with
        | some d => ∃ w, v = .tuple #[w, .bool true] ∧ Acc 5 1 H.next H'.next H' w d.length (bvs d)
        | none => v = .tuple #[.slice none 0 0, .bool false]
      else v = .tuple #[.slice none 0 0, .bool false] := by
  refine w51 rfl rfl _ _ _ ?_
  simp [s51]
  refine (Whole_t hl hm).mono ?_
  rintro v H1 ⟨rfl, rfl⟩
  by_cases hw : wholeB l = true
  case neg =>
    simp [hw, tup]
    exact Kp.refl _ _
  by_cases hn0 : n < 0
  · have : ¬ 0 ≤ n := by omega
    simp [hw, hn0, this, tup]
    exact Kp.refl _ _
  by_cases hn1 : 1048576 < n
  · have : ¬ n ≤ 1048576 := by omega
    simp [hw, hn0, hn1, this, tup]
    exact Kp.refl _ _
  have hr : rightB l = true := by simp only [wholeB, Bool.and_eq_true] at hw; exact hw.1
  have hlen := right_len hr
  have hall := right_all hr
  obtain ⟨m, rfl⟩ : ∃ m : Nat, n = (m : Int) := ⟨n.toNat, by omega⟩
  have hcond : wholeB l = true ∧ 0 ≤ (m : Int) ∧ (m : Int) ≤ 1048576 := ⟨hw, by omega, by omega⟩
  simp only [eq_true hcond, if_true, Int.toNat_natCast]
  simp [hw, hn0, hn1]
  refine (ready_t hl hr).mono ?_
  rintro v H2 ⟨rfl, cs, ov, hrc⟩
  have hsr : s.length ≤ roomMax := by unfold roomMax; omega
  have hs2 := fun K => s_s2b (S := S) (e := []) (H := H2) (K := K) (t := 5) hsr
  simp [hs2]
  have hk3 : Kp H2.next H2 (H2.push (.cells (bvs s) 5 true)) := Kp.push (Nat.le_refl _)
  have hrow : kRow (H2.push (.cells (bvs s) 5 true)) 5 1 s.length (some ⟨H2.next, 0, none⟩) = some (bvs s) := by
    simp [kRow, rd, bvs_len]
    rw [← bvs_len s, List.take_length]
  generalize H2.push (.cells (bvs s) 5 true) = H3 at *
  refine (NewReader_t (c := capx) hrow (by omega)).mono ?_
  rintro v H4 ⟨sv, b, rfl, hb1, hb2, hgb, hby, hk4⟩
  have hn2 := hk3.1
  have hn3 := hk4.1
  have hrx : Rx H4 H1.next b (Fq l 12) (Cq l 12) (Sq l 12) (ordAt l 12 0) := (hrc.rx (by omega)).of fun k hk _ => (hk4.2 k (by omega)).trans (hk3.2 k hk)
  have hkp4 : Kp H1.next H1 H4 := hrc.kp.trans ((hk3.mono hrc.kp.1).trans (hk4.mono (by have := hrc.kp.1; omega)))
  have hob := ordAt_bd hlen 12
  have htot : total l ≤ 2048 := by
    simp only [wholeB, Bool.and_eq_true, Bool.or_eq_true, decide_eq_true_eq] at hw
    rcases hw.2 with h | h <;> omega
  have hF : ∀ n, n ≤ 12 → Fq l 12 n ≤ 100000 := fun n hn => by
    unfold Fq
    split
    · rename_i h
      have h1 := codeAt_ahead (l := l) n (by omega) (by omega) 0 (by omega)
      have h2 := ahead_total l n 0
      have h3 := part_pos (n : Int)
      rcases Int.lt_or_le 100000 (codeAt l n 0) with h4 | h4
      · have : codeAt l n 0 * 1 ≤ codeAt l n 0 * part n := Int.mul_le_mul_of_nonneg_left (by omega) (by omega)
        omega
      · omega
    · omega
  have hC : ∀ n, n ≤ 12 → Cq l 12 n ≤ 1000 := fun n _ => by
    unfold Cq
    split
    · have := cntS_le l n l.length; omega
    · omega
  have hSt : ∀ n, n ≤ 12 → Sq l 12 n + Cq l 12 n ≤ (ordAt l 12 0).length := fun n hn => by
    unfold Sq Cq
    split
    · rename_i h
      obtain ⟨m, rfl⟩ : ∃ m, n = m + 1 := ⟨n - 1, by omega⟩
      rw [ordAt_le]
      obtain ⟨q, hq⟩ := Nat.exists_eq_add_of_le (show m + 1 + 1 ≤ 12 by omega)
      have p2 := (ord_pre2 (l := l) (n := m + 1) (by omega) q).length_le
      rw [← hq] at p2
      exact p2
    · omega
  refine l51_0 S (fun d e H' => ∃ i, DecJ H4 H1.next b sv l s m d e H' i) m ⟨0, by omega, by omega, ⟨[], 0, rfl, hgb, Acc.nil⟩, Nat.le_refl _, fun k _ _ => rfl, by simp, by simp, by simp, by simp⟩ ?_
  rintro d e H' ⟨i, hi, rfl, ⟨t, at_, hdec, hg, hA⟩, hnx, hkp, e8, e9, e32, e33⟩
  have hrx' := hrx.of hkp
  have hby' := hby.of hkp
  obtain ⟨d1, d2, d3, d4⟩ := decI_inv hr i t at_ hdec
  have hkp1 : Kp H1.next H1 H' := ⟨by have := hkp4.1; omega, fun k hk => (hkp k (by have := hkp4.1; omega) (by have := hrc.kp.1; omega)).trans (hkp4.2 k hk)⟩
  by_cases h3 : i < m
  · have w2 : IntKind.i64.wrap ((i : Int) + 1) = (i : Int) + 1 := wi (by omega) (by omega)
    simp [s51_0, e8, e9, e32, e33, h3]
    refine (next_t hrx' hg hby' (by omega) d2 hF hC hSt (by omega)).mono ?_
    rintro v H5 (⟨n, hn, hfit, hnot, hhit, rfl, rfl⟩ | ⟨rfl, q, hq, hnot, hq2, rfl⟩)
    · obtain ⟨k, hbk, hak, hsym⟩ := hit_sym hr (by omega) hn hfit hhit
      rw [hsym]
      have hdn := decI_hit hr hdec hbk
      have hakn : (at0 l k).toNat = n + 1 := by omega
      rw [hakn] at hdn
      have hbl : b < H'.next := by omega
      obtain ⟨HX, hHX⟩ : ∃ HX, HX = H'.put b (BrB sv (at_ + (n + 1))) := ⟨_, rfl⟩
      have hgX : HX.get b = BrB sv (at_ + (n + 1)) := by rw [hHX]; exact get_put_eq hbl
      have hnX : HX.next = H'.next := by rw [hHX]; exact next_put
      have hAX : Acc 5 1 H4.next HX.next HX (e 10) i (bvs t) := by rw [hnX, hHX]; exact hA.kp fun k hk _ => get_put_ne (by omega)
      have hkX : ∀ k, k < H4.next → k ≠ b → HX.get k = H4.get k := fun k h1 h2 => by rw [hHX, get_put_ne h2]; exact hkp k h1 h2
      rw [← hHX]
      obtain ⟨u, hu⟩ : ∃ u, u = UInt8.ofNat k := ⟨_, rfl⟩
      rw [← hu] at hdn ⊢
      obtain ⟨v2, H6, hap, hA6, hn6, hk6⟩ := hAX.app (bytes := 1) (new := [bv u]) (by omega) (Nat.le_refl _) rfl (by unfold roomMax; omega)
      unfold bv at hap ⊢
      simp [e33, kFill, evPs, isTup, cellsL, wr, kRow, rd, hap, w2]
      refine ⟨m - (i + 1), by omega, i + 1, by omega, rfl, ⟨t ++ [u], at_ + (n + 1), hdn, (hk6 b (by omega) (.inl (by omega))).trans hgX, by simpa [bvs, bv] using hA6⟩, by omega, fun k h1 h2 => (hk6 k (by omega) (.inl (by omega))).trans (hkX k h1 h2), by simp [e8], by simp [e9], by simp [e32], by simp⟩
    · have hmiss : ∀ k, ¬ Beg l s at_ k := fun k hb => by
        have hh := beg_hit hr hb
        have := hall k
        obtain ⟨b1, b2, b3, b4⟩ := hb
        exact hnot _ (by omega) (by omega) hh
      have hdn := decI_miss hdec hmiss
      obtain ⟨j, hj⟩ := Nat.exists_eq_add_of_le (show i + 1 ≤ m by omega)
      have hdm := decI_none hdn j
      rw [← hj] at hdm
      have hF0 : decF l s m = none := by unfold decF; rw [hdm]; rfl
      simp [hF0, tup]
      exact hkp1.trans (Kp.put (by have := hrc.kp.1; have := hkp4.1; omega))
  · have h5 : i = m := by omega
    subst h5
    simp [s51_0, e8, e9, e32, e33]
    refine (Left_t hg hby' (by omega) d2).mono ?_
    rintro v H5 ⟨rfl, rfl⟩
    obtain ⟨L, hL⟩ : ∃ L, L = 8 * s.length - at_ := ⟨_, rfl⟩
    rw [← hL]
    have hmn : min (L : Int) 8 = ((min L 8 : Nat) : Int) := by omega
    simp [hmn]
    refine (Take_t hg hby' (by omega) d2 (min L 8) (by omega)).mono ?_
    intro v H6 hv
    rw [if_pos (by omega)] at hv
    obtain ⟨rfl, rfl⟩ := hv
    have hkp6 : Kp H1.next H1 (H5.put b (BrB sv (at_ + min L 8))) := hkp1.trans (Kp.put (by have := hrc.kp.1; have := hkp4.1; omega))
    have hA6 : Acc 5 1 H1.next (H5.put b (BrB sv (at_ + min L 8))).next (H5.put b (BrB sv (at_ + min L 8))) (e 10) i (bvs t) := by
      rw [next_put]
      rcases hA.kp (H' := H5.put b (BrB sv (at_ + min L 8))) fun k hk _ => get_put_ne (by omega) with h | ⟨b', c', q1, q2, q3⟩
      · exact .inl h
      · exact .inr ⟨b', c', by have := hkp4.1; omega, q2, q3⟩
    have hfd : decF l s i = if L ≤ 7 ∧ numB s at_ L = 0 then some t else none := by unfold decF; rw [hdec]; simp only [Option.bind_some, hL]
    rw [hfd]
    by_cases g1 : 7 < L
    · have g1' : ¬ L ≤ 7 := by omega
      have g1i : (7 : Int) < L := by omega
      simp [g1, g1', g1i, tup]
      exact hkp6
    · have g1' : L ≤ 7 := by omega
      have g1i : ¬ (7 : Int) < L := by omega
      have hmL : min L 8 = L := by omega
      rw [hmL] at hkp6 hA6 ⊢
      by_cases g2 : numB s at_ L = 0
      · simp [g1, g1', g1i, g2, tup]
        exact ⟨hkp6, by rw [d1]; exact hA6⟩
      · simp [g1, g1', g1i, g2, tup]
        exact hkp6
end
end Go.Proofs.YtlboioplemlneaaGreat.K
/- Bytes of a code, as the document reads them. -/
set_option maxRecDepth 100000
set_option maxHeartbeats 2000000
set_option linter.unusedVariables false
set_option linter.unusedSimpArgs false
namespace Go.Proofs.YtlboioplemlneaaGreat.K
open Go Go.Proofs
/-- codes that stand in an array at x, each in a block of its own below M -/
def CdS (H : Heap) (x M : Nat) (l : List Int) (j : Nat) : Prop := ∃ cs, H.get x = .cells cs 65 true ∧ cs.length = 256 ∧
  ∀ k, k < j → 0 < at0 l k → ∃ a c, cs[k]? = some (.slice a (at0 l k).toNat c) ∧ ∃ b o cs', a = some ⟨b, o, none⟩ ∧ b < M ∧ b ≠ x ∧ H.get b = .cells cs' 3 true ∧ ∀ (i : Nat) y, (codeB l k)[i]? = some y → cs'[o + i]? = some (.int .i64 y)
theorem CdS.of {H H' : Heap} {x M M' : Nat} {l : List Int} {j : Nat} (h : CdS H x M l j) (hx : x < M) (hk : ∀ k, k < M → H'.get k = H.get k) (hM : M ≤ M') : CdS H' x M' l j := by
  obtain ⟨cs, h1, h2, h3⟩ := h
  refine ⟨cs, (hk x hx).trans h1, h2, fun k hkj hp => ?_⟩
  obtain ⟨a, c, q1, b, o, cs', q2, q3, q4, q5, q6⟩ := h3 k hkj hp
  exact ⟨a, c, q1, b, o, cs', q2, by omega, q4, (hk b q3).trans q5, q6⟩
section
variable {H : Heap} {a : Option Addr} {c : Nat} {l : List Int} {s : Bytes}
structure CdI (H0 : Heap) (a : Option Addr) (c : Nat) (l : List Int) (a1 a2 : Value) (d : Nat) (e : Fe) (H : Heap) (j : Nat) : Prop where
  h1 : j ≤ l.length
  h2 : d = l.length - j
  kp : Kp H0.next H0 H
  lt : H0.next < H.next
  cd : CdS H H0.next H.next l j
  e0 : e 0 = .slice a l.length c
  e1 : e 1 = a1
  e2 : e 2 = a2
  e8 : e 8 = .pointer (some ⟨H0.next, 0, none⟩)
  e9 : e 9 = .int .i64 j
theorem codesLoop_t {H0 H : Heap} {e : Fe} {Q : Kx} {a1 a2 : Value} (hl : Iv H0 a l) (hr : rightB l = true) (hc : CdI H0 a c l a1 a2 l.length e H 0)
    (hQ : ∀ e' H', CdI H0 a c l a1 a2 0 e' H' l.length → Q (.exit 0) e' H') : WL S b20_2 e H Q := by
  have hlen := right_len hr
  have hall := right_all hr
  refine l20_2 S (fun d e H' => ∃ j, CdI H0 a c l a1 a2 d e H' j) l.length ⟨0, hc⟩ ?_
  rintro d e H' ⟨j, hj, rfl, hkp, hlt, hcd, e0, e1, e2, e8, e9⟩
  by_cases h3 : j < l.length
  · have hl' := hl.kp hkp
    obtain ⟨b, o, cs, rw, rfl, hg, hcs⟩ := hl' (by omega)
    obtain ⟨x, hx⟩ : ∃ x, l[j]? = some x := ⟨_, List.getElem?_eq_getElem h3⟩
    have hcx := hcs j x hx
    have hax := at0_of hx
    have hxb := hall j
    rw [hax] at hxb
    have w2 : IntKind.i64.wrap ((j : Int) + 1) = (j : Int) + 1 := wi (by omega) (by omega)
    by_cases g : 0 < x
    · simp [s20_2, e0, e1, e2, e8, e9, h3, addOff, hg, hcx, g]
      refine (Code_t (c := c) (hl.kp hkp) hr h3 (by rw [hax]; exact g)).mono ?_
      rintro v H4 ⟨hk4, hA4⟩
      have hcd4 := hcd.of hlt (fun k hk => hk4.2 k hk) hk4.1
      obtain ⟨cs4, g1, g2, g3⟩ := hcd4
      have hn4 := hk4.1
      have hj6 : j < 256 := by omega
      have hj6' : (j : Int) < 256 := by omega
      obtain ⟨a5, c5, rfl, h5⟩ := hA4.len
      rcases hA4 with ⟨h0, _, _⟩ | ⟨b4, c4, r1, r2, r3, r4, r5, r6⟩
      · rw [hax] at h0; omega
      obtain ⟨rfl, _, rfl⟩ := (Value.slice.injEq _ _ _ _ _ _).mp r3
      have hst : kSt H4 (.pointer (some ⟨H0.next, j, none⟩)) (.slice (some ⟨b4, 0, none⟩) (at0 l j).toNat c5) = some (H4.put H0.next (.cells (cs4.set j (.slice (some ⟨b4, 0, none⟩) (at0 l j).toNat c5)) 65 true)) := by
        simp [kSt, g1, g2, hj6, oneC]
      simp [hj6, hj6', hst, w2, e8, e9]
      refine ⟨l.length - (j + 1), by omega, j + 1, by omega, rfl, hkp.trans ((hk4.mono (by omega)).trans (Kp.put (Nat.le_refl _))), by rw [next_put]; omega, ⟨_, get_put_eq (by omega), by simp [g2], fun k hk hp => ?_⟩, by simp [e0], by simp [e1], by simp [e2], by simp [e8], by simp⟩
      by_cases hkj : k = j
      · subst hkj
        refine ⟨_, c5, by rw [List.getElem?_set_self (by omega)], b4, 0, _, rfl, by rw [next_put]; omega, by omega, (get_put_ne (by omega)).trans r5, fun i y hy => by rw [Nat.zero_add]; exact ivs_get hy⟩
      · obtain ⟨a6, c6, q1, b6, o6, cs6, q2, q3, q4, q5, q6⟩ := g3 k (by omega) hp
        exact ⟨a6, c6, by rw [List.getElem?_set_ne (by omega)]; exact q1, b6, o6, cs6, q2, by rw [next_put]; exact q3, q4, (get_put_ne q4).trans q5, q6⟩
    · simp [s20_2, e0, e1, e2, e8, e9, h3, addOff, hg, hcx, g, w2]
      refine ⟨l.length - (j + 1), by omega, j + 1, by omega, rfl, hkp, hlt, ?_, by simp [e0], by simp [e1], by simp [e2], by simp [e8], by simp⟩
      obtain ⟨cs4, g1, g2, g3⟩ := hcd
      refine ⟨cs4, g1, g2, fun k hk hp => ?_⟩
      by_cases hkj : k = j
      · subst hkj; rw [hax] at hp; omega
      · exact g3 k (by omega) hp
  · have h5 : j = l.length := by omega
    subst h5
    simp [s20_2, e0, e9]
    exact hQ _ _ ⟨Nat.le_refl _, by omega, hkp, hlt, hcd, by simp [e0], by simp [e1], by simp [e2], by simp [e8], by simp [e9]⟩
theorem beg_iff {at_ k : Nat} (hw : wholeB l = true) (hk : k < l.length) (hp : 0 < at0 l k) : ((bitsB s).drop at_).take (codeB l k).length = codeB l k ↔ Beg l s at_ k := by
  have hr : rightB l = true := by simp only [wholeB, Bool.and_eq_true] at hw; exact hw.1
  have hall := right_all hr
  have hlen := right_len hr
  have htot : total l ≤ 2048 := by
    simp only [wholeB, Bool.and_eq_true, Bool.or_eq_true, decide_eq_true_eq] at hw
    rcases hw.2 with h | h <;> omega
  have hc := code_lt hall hk hp htot
  have hcn : (codeOf l k).toNat < 2 ^ (at0 l k).toNat := by
    have e : p2 (at0 l k).toNat = ((2 ^ (at0 l k).toNat : Nat) : Int) := by unfold p2; exact_mod_cast rfl
    omega
  rw [codeB_len]
  by_cases hn : at_ + (at0 l k).toNat ≤ 8 * s.length
  · have := begins_iff (s := s) (a := at_) (c := (codeOf l k).toNat) (n := (at0 l k).toNat) hcn hn
    unfold codeB
    rw [this]
    exact ⟨fun h => ⟨hk, hp, hn, h⟩, fun h => h.2.2.2⟩
  · constructor
    · intro h
      have := congrArg List.length h
      rw [List.length_take, List.length_drop, bitsB_len, codeB_len] at this
      omega
    · intro h; exact absurd h.2.2.1 hn
structure MetI (HH : Heap) (l : List Int) (s : Bytes) (at_ : Nat) (ef : Fe) (d : Nat) (e : Fe) (H : Heap) (k : Nat) : Prop where
  h1 : k ≤ l.length
  h2 : d = l.length - k
  hH : H = HH
  fr : e 0 = ef 0 ∧ e 2 = ef 2 ∧ e 8 = ef 8 ∧ e 10 = ef 10 ∧ e 11 = ef 11 ∧ e 12 = ef 12
  m : (e 13 = .int .i64 (-1) ∧ ∀ k', k' < k → ¬ Beg l s at_ k') ∨ ∃ k', k' < k ∧ Beg l s at_ k' ∧ e 13 = .int .i64 (k' : Int)
  e14 : e 14 = .int .i64 k
theorem metLoop_t {H : Heap} {e : Fe} {Q : Kx} {x M at_ : Nat} {v : Value} (hl : Iv H a l) (hw : wholeB l = true) (hcd : CdS H x M l l.length) (hv : Is H v ((bitsB s).drop at_)) (hs : s.length ≤ 100000)
    (e0 : e 0 = .slice a l.length c) (e8 : e 8 = .pointer (some ⟨x, 0, none⟩)) (e10 : e 10 = v) (e13 : e 13 = .int .i64 (-1)) (e14 : e 14 = .int .i64 0)
    (hQ : ∀ e', MetI H l s at_ e 0 e' H l.length → Q (.exit 4) e' H) : WL S b20_3 e H Q := by
  have hr : rightB l = true := by simp only [wholeB, Bool.and_eq_true] at hw; exact hw.1
  have hlen := right_len hr
  have hall := right_all hr
  obtain ⟨va, vc, rfl, hiv⟩ := hv.iv
  obtain ⟨cs4, g1, g2, g3⟩ := hcd
  refine l20_3 S (fun d e' H' => ∃ k, MetI H l s at_ e d e' H' k) l.length ⟨0, by omega, by omega, rfl, ⟨rfl, rfl, rfl, rfl, rfl, rfl⟩, .inl ⟨e13, by omega⟩, e14⟩ ?_
  rintro d e' H' ⟨k, hk, rfl, rfl, fr, hm, q14⟩
  have q0 := fr.1.trans e0
  have q8 := fr.2.2.1.trans e8
  have q10 := fr.2.2.2.1.trans e10
  by_cases h3 : k < l.length
  · obtain ⟨b, o, cs, rw, rfl, hg, hcs⟩ := hl (by omega)
    obtain ⟨y, hy⟩ : ∃ y, l[k]? = some y := ⟨_, List.getElem?_eq_getElem h3⟩
    have hcy := hcs k y hy
    have hay := at0_of hy
    have w2 : IntKind.i64.wrap ((k : Int) + 1) = (k : Int) + 1 := wi (by omega) (by omega)
    have k256 : k < 256 := by omega
    have k256' : (k : Int) < 256 := by omega
    by_cases g : 0 < y
    · obtain ⟨a6, c6, r1, b6, o6, cs6, rfl, r3, r4, r5, r6⟩ := g3 k h3 (by rw [hay]; exact g)
      have hivc : Iv H' (some ⟨b6, o6, none⟩) (codeB l k) := fun _ => ⟨b6, o6, cs6, true, rfl, r5, r6⟩
      have hbeg := beg_iff (s := s) (at_ := at_) hw h3 (by rw [hay]; exact g)
      have hbl := bitsB_len s
      have hcl := codeB_len (l := l) (s := k)
      have hab := hall k
      have hst := begins_t (c := vc) (c2 := c6) hiv hivc (by rw [List.length_drop]; omega) (by omega)
      rw [hcl] at hst
      simp [s20_3, q0, q8, q10, q14, h3, addOff, hg, hcy, g, k256, k256', g1, r1]
      rw [List.length_drop] at hst
      refine hst.mono ?_
      rintro r H2 ⟨rfl, rfl⟩
      rw [← hcl]
      by_cases hb : Beg l s at_ k
      · have := hbeg.2 hb
        simp [this, q14, w2]
        exact ⟨l.length - (k + 1), by omega, k + 1, by omega, rfl, rfl, by simp [fr], .inr ⟨k, by omega, hb, by simp⟩, by simp⟩
      · have hnb : ¬ ((bitsB s).drop at_).take (codeB l k).length = codeB l k := fun h => hb (hbeg.1 h)
        simp [hnb, q14, w2]
        refine ⟨l.length - (k + 1), by omega, k + 1, by omega, rfl, rfl, by simp [fr], ?_, by simp⟩
        rcases hm with ⟨m1, m2⟩ | ⟨k', m1, m2, m3⟩
        · refine .inl ⟨by simp [m1], fun k' hk' => ?_⟩
          by_cases e : k' = k
          · rw [e]; exact hb
          · exact m2 k' (by omega)
        · exact .inr ⟨k', by omega, m2, by simp [m3]⟩
    · have hb : ¬ Beg l s at_ k := fun h => g (by rw [← hay]; exact h.2.1)
      simp [s20_3, q0, q8, q10, q14, h3, addOff, hg, hcy, g, w2]
      refine ⟨l.length - (k + 1), by omega, k + 1, by omega, rfl, rfl, by simp [fr], ?_, by simp⟩
      rcases hm with ⟨m1, m2⟩ | ⟨k', m1, m2, m3⟩
      · refine .inl ⟨by simp [m1], fun k' hk' => ?_⟩
        by_cases e : k' = k
        · rw [e]; exact hb
        · exact m2 k' (by omega)
      · exact .inr ⟨k', by omega, m2, by simp [m3]⟩
  · have h5 : k = l.length := by omega
    subst h5
    simp [s20_3, q0, q14]
    refine hQ _ ⟨Nat.le_refl _, by omega, rfl, by simp [fr], ?_, by simp [q14]⟩
    rcases hm with ⟨m1, m2⟩ | ⟨k', m1, m2, m3⟩
    · exact .inl ⟨by simp [m1], m2⟩
    · exact .inr ⟨k', m1, m2, by simp [m3]⟩
theorem numB_zero (s : Bytes) (at_ : Nat) : ∀ n, numB s at_ n = 0 ↔ ∀ i, i < n → bitAt s (at_ + i) = 0
  | 0 => by simp [numB]
  | n + 1 => by
    have ih := numB_zero s at_ n
    have hp : 0 < 2 ^ n := Nat.pow_pos (by omega)
    simp only [numB]
    constructor
    · intro h i hi
      have h2 : bitAt s (at_ + n) * 2 ^ n = 0 := by omega
      have h1 : numB s at_ n = 0 := by omega
      rcases Nat.lt_or_ge i n with hin | hin
      · exact ih.1 h1 i hin
      · have : i = n := by omega
        subst this
        rcases Nat.mul_eq_zero.1 h2 with h | h <;> omega
    · intro h
      rw [ih.2 fun i hi => h i (by omega), h n (by omega)]; simp
structure OutI (HB : Heap) (x : Nat) (a : Option Addr) (c : Nat) (l : List Int) (s : Bytes) (n : Nat) (d : Nat) (e : Fe) (H : Heap) (i : Nat) : Prop where
  h1 : i ≤ n
  h2 : d = n - i
  r : ∃ t at_, decI l s i = some (t, at_) ∧ Is HB (e 10) ((bitsB s).drop at_) ∧ Acc 5 1 HB.next H.next H (e 11) i (bvs t)
  kp : Kp HB.next HB H
  e0 : e 0 = .slice a l.length c
  e2 : e 2 = .int .i64 n
  e8 : e 8 = .pointer (some ⟨x, 0, none⟩)
  e12 : e 12 = .int .i64 i
structure EndI (HH : Heap) (s : Bytes) (at_ : Nat) (v w : Value) (d : Nat) (e : Fe) (H : Heap) (i : Nat) : Prop where
  h1 : i ≤ 8 * s.length - at_
  h2 : d = 8 * s.length - at_ - i
  hH : H = HH
  z : ∀ j, j < i → bitAt s (at_ + j) = 0 ∧ j < 7
  e10 : e 10 = v
  e11 : e 11 = w
  e15 : e 15 = .int .i64 i
theorem rDecode_t (hl : Iv H a l) (hw : wholeB l = true) (hs : s.length ≤ 100000) (n : Nat) (hn : n ≤ 1048576) :
    Wf S 20 [.slice a l.length c, .string (ofL s), .int .i64 n] H fun v H' => Kp H.next H H' ∧
      match decF l s n with
      | some d => ∃ w, v = .tuple #[w, .bool true] ∧ Acc 5 1 H.next H'.next H' w d.length (bvs d)
      | none => v = .tuple #[.slice none 0 0, .bool false] := by
  have hr : rightB l = true := by simp only [wholeB, Bool.and_eq_true] at hw; exact hw.1
  have hlen := right_len hr
  have hall := right_all hr
  have hbl := bitsB_len s
  refine w20 rfl rfl _ _ _ ?_
  simp [s20]
  have hk1 : ∀ cs : List Value, Kp H.next H (H.push (.cells cs 65 true)) := fun cs => Kp.push (Nat.le_refl _)
  refine codesLoop_t (H0 := H) (a := a) (c := c) (a1 := .string (ofL s)) (a2 := .int .i64 n) hl hr ⟨by omega, by omega, hk1 _, by simp, ⟨_, get_last, rfl, by omega⟩, by simp, by simp, by simp, by simp, by simp⟩ ?_
  rintro e1 H1 ⟨_, _, hkp1, hlt1, hcd1, q0, q1, q2, q8, q9⟩
  have hsr : s.length ≤ roomMax := by unfold roomMax; omega
  have hs2 := fun K => s_s2b (S := S) (e := []) (H := H1) (K := K) (t := 5) hsr
  simp [q1, hs2]
  have hk2 : Kp H1.next H1 (H1.push (.cells (bvs s) 5 true)) := Kp.push (Nat.le_refl _)
  have hg2 : (H1.push (.cells (bvs s) 5 true)).get H1.next = .cells (bvs s) 5 true := get_last
  generalize H1.push (.cells (bvs s) 5 true) = H2 at *
  refine (Bits_t (c := capx) (fun _ => ⟨H1.next, rfl, hg2⟩) (by omega)).mono ?_
  rintro v H3 ⟨hk3, hA3⟩
  have hn1 := hk2.1
  have hn3 := hk3.1
  have hcd3 : CdS H3 H.next H3.next l l.length := hcd1.of hlt1 (fun k hk => (hk3.2 k (by omega)).trans (hk2.2 k hk)) (by omega)
  have hkp3 : Kp H.next H H3 := hkp1.trans ((hk2.mono hkp1.1).trans (hk3.mono (by have := hkp1.1; omega)))
  have hl3 : Iv H3 a l := hl.kp hkp3
  have his3 : Is H3 v (bitsB s) := by
    rcases hA3 with ⟨h0, h1, rfl⟩ | ⟨b, c', r1, r2, r3, r4, r5, r6⟩
    · exact .inl ⟨rfl, by simpa [ivs] using h1⟩
    · refine .inr ⟨b, 0, c', _, true, by rw [r3, hbl], ?_, r5, fun i y hy => by rw [Nat.zero_add]; exact ivs_get hy⟩
      rcases r4 with r4 | r4
      · exact .inl r4
      · right; rw [hbl]; omega
  refine l20_1 S (fun d e H' => ∃ i, OutI H3 H.next a c l s n d e H' i) n ⟨0, by omega, by omega, ⟨[], 0, rfl, by simpa using his3, by simpa [bvs] using Acc.nil⟩, Kp.refl _ _, by simp [q0], by simp [q2], by simp [q8], by simp⟩ ?_
  rintro d e H' ⟨i, hi, rfl, ⟨t, at_, hdec, his, hA⟩, hkp, e0, e2, e8, e12⟩
  obtain ⟨d1, d2, d3, d4⟩ := decI_inv hr i t at_ hdec
  have hl' := hl3.kp hkp
  have hcd := hcd3.of (by omega) (fun k hk => hkp.2 k hk) hkp.1
  by_cases h3 : i < n
  · have w2 : IntKind.i64.wrap ((i : Int) + 1) = (i : Int) + 1 := wi (by omega) (by omega)
    simp [s20_1, e2, e12, h3]
    refine metLoop_t (c := c) (v := e 10) hl' hw hcd (his.kp hkp) hs (by simp [e0]) (by simp [e8]) (by simp) (by simp) (by simp) ?_
    rintro e' ⟨_, _, _, ⟨f0, f2, f8, f10, f11, f12⟩, hm, _⟩
    simp at f0 f2 f8 f10 f11 f12
    rcases hm with ⟨m1, m2⟩ | ⟨k, hk, hb, m3⟩
    · have hmiss : ∀ k, ¬ Beg l s at_ k := fun k hb => m2 k hb.1 hb
      have hdn := decI_miss hdec hmiss
      obtain ⟨j, hj⟩ := Nat.exists_eq_add_of_le (show i + 1 ≤ n by omega)
      have hdm := decI_none hdn j
      rw [← hj] at hdm
      have hF0 : decF l s n = none := by unfold decF; rw [hdm]; rfl
      simp [m1, hF0, tup]
      exact hkp3.trans (hkp.mono hkp3.1)
    · obtain ⟨b1, b2, b3, b4⟩ := hb
      have hdn := decI_hit hr hdec ⟨b1, b2, b3, b4⟩
      have hku : IntKind.u8.wrap (k : Int) = ((UInt8.ofNat k).toNat : Int) := by
        have : (UInt8.ofNat k).toNat = k := by simp; omega
        rw [this, wu8 (by omega) (by omega)]
      obtain ⟨u, hu⟩ : ∃ u, u = UInt8.ofNat k := ⟨_, rfl⟩
      rw [← hu] at hdn hku
      have hnx := hkp.1
      obtain ⟨v2, H6, hap, hA6, hn6, hk6⟩ := hA.app (bytes := 1) (new := [bv u]) hkp.1 (Nat.le_refl _) rfl (by unfold roomMax; omega)
      have hkp6 : Kp H3.next H3 H6 := ⟨by omega, fun k hk => (hk6 k (by omega) (.inl hk)).trans (hkp.2 k hk)⟩
      obtain ⟨y, hy⟩ : ∃ y, l[k]? = some y := ⟨_, List.getElem?_eq_getElem b1⟩
      obtain ⟨bb, o, cs, rw, rfl, hg, hcs⟩ := (hl3.kp hkp6) (by omega)
      have hcy := hcs k y hy
      have hay := at0_of hy
      obtain ⟨z, hz⟩ : ∃ z : Nat, y = (z : Int) := ⟨y.toNat, by omega⟩
      have hzz : (at0 l k).toNat = z := by omega
      rw [hzz] at hdn b3
      obtain ⟨v3, hv3⟩ := his.cut2 (S := S) (m := z) (by rw [List.length_drop]; omega)
      obtain ⟨hi3, _⟩ := hv3 H3 his
      obtain ⟨_, hr6⟩ := hv3 H6 (his.kp hkp6)
      rw [List.drop_drop] at hi3
      subst hz
      unfold bv at hap
      have hkn : ¬ (k : Int) < 0 := by omega
      simp [m3, hkn]
      simp [m3, kFill, evPs, isTup, cellsL, wr, kRow, rd, hku, f11, hap, f0, e0, b1, addOff, hg, hcy, f10, hr6, f12, e12, w2]
      exact ⟨n - (i + 1), by omega, i + 1, by omega, rfl, ⟨t ++ [u], at_ + z, hdn, by simpa using hi3, by simpa [bvs, bv] using hA6⟩, hkp6, by simp [f0, e0], by simp [f2, e2], by simp [f8, e8], by simp⟩
  · have h5 : i = n := by omega
    subst h5
    simp [s20_1, e2, e12]
    have his' := his.kp hkp
    obtain ⟨va, vc, e10, hiv⟩ := his'.iv
    obtain ⟨L, hL⟩ : ∃ L, L = 8 * s.length - at_ := ⟨_, rfl⟩
    have hdl : ((bitsB s).drop at_).length = L := by rw [List.length_drop, hbl, hL]
    have hfd : decF l s i = if L ≤ 7 ∧ numB s at_ L = 0 then some t else none := by unfold decF; rw [hdec]; simp only [Option.bind_some, hL]
    have hkf : Kp H.next H H' := hkp3.trans (hkp.mono hkp3.1)
    rw [hdl] at e10
    refine l20_0 S (fun d e' H2 => ∃ j, EndI H' s at_ (.slice va L vc) (e 11) d e' H2 j) L ⟨0, by omega, by omega, rfl, by omega, by simp [e10], by simp, by simp⟩ ?_
    rintro d e' H2 ⟨j, hj, rfl, rfl, hz, q10, q11, q15⟩
    by_cases h4 : j < L
    · have w2 : IntKind.i64.wrap ((j : Int) + 1) = (j : Int) + 1 := wi (by omega) (by omega)
      obtain ⟨bb, o, cs, rw, rfl, hg, hcs⟩ := hiv (by rw [hdl]; omega)
      have hx : ((bitsB s).drop at_)[j]? = some ((bitAt s (at_ + j) : Nat) : Int) := by rw [List.getElem?_drop, bitsB_get s _ (by omega)]
      have hcx := hcs j _ hx
      by_cases g1 : bitAt s (at_ + j) = 0
      · rw [g1] at hcx
        by_cases g2 : j < 7
        · have g2' : ¬ (7 : Int) ≤ j := by omega
          simp [s20_0, q10, q11, q15, h4, addOff, hg, hcx, g2', w2]
          refine ⟨L - (j + 1), by omega, j + 1, by omega, by omega, rfl, fun q hq => ?_, by simp [q10], by simp [q11], by simp⟩
          by_cases e : q = j
          · rw [e]; exact ⟨g1, g2⟩
          · exact hz q (by omega)
        · have g2' : (7 : Int) ≤ j := by omega
          have hno : ¬ (L ≤ 7 ∧ numB s at_ L = 0) := by omega
          rw [if_neg hno] at hfd
          simp [s20_0, q10, q11, q15, h4, addOff, hg, hcx, g2', tup, hfd]
          exact hkf
      · have hno : ¬ (L ≤ 7 ∧ numB s at_ L = 0) := by
          rw [numB_zero]
          rintro ⟨_, h⟩
          exact g1 (h j h4)
        rw [if_neg hno] at hfd
        obtain ⟨B, hB⟩ : ∃ B, B = bitAt s (at_ + j) := ⟨_, rfl⟩
        rw [← hB] at hcx g1
        simp [s20_0, q10, q11, q15, h4, addOff, hg, hcx, g1, tup, hfd]
        exact hkf
    · have h5 : j = L := by omega
      subst h5
      have hyes : j ≤ 7 ∧ numB s at_ j = 0 := by
        refine ⟨?_, (numB_zero s at_ j).2 fun q hq => (hz q hq).1⟩
        rcases Nat.lt_or_ge 7 j with h | h
        · have := (hz 7 h).2; omega
        · exact h
      rw [if_pos hyes] at hfd
      simp [s20_0, q10, q11, q15, tup, hfd]
      refine ⟨hkf, ?_⟩
      rw [d1]
      rcases hA with h | ⟨b', c', r1, r2, r3⟩
      · exact .inl h
      · exact .inr ⟨b', c', by have := hkp3.1; omega, r2, r3⟩
end
end Go.Proofs.YtlboioplemlneaaGreat.K
/- Bytes in code, and what is read of them, plainly. -/
set_option maxRecDepth 100000
set_option maxHeartbeats 2000000
set_option linter.unusedVariables false
set_option linter.unusedSimpArgs false
namespace Go.Proofs.YtlboioplemlneaaGreat.K
open Go Go.Proofs
theorem bitsN_get {V n i : Nat} (h : i < n) : (bitsN V n)[i]? = some ((V / 2 ^ i % 2 : Nat) : Int) := by simp [bitsN, h]
theorem bitsN_inj {V W n : Nat} (hV : V < 2 ^ n) (hW : W < 2 ^ n) (h : bitsN V n = bitsN W n) : V = W := by
  refine bits_inj hV hW fun k hk => ?_
  have h1 := bitsN_get (V := V) hk
  rw [h, bitsN_get hk] at h1
  have := Option.some.inj h1
  omega
theorem packs_uniq {bits : List Int} {s s' : Bytes} (h : Packs bits s) (h' : Packs bits s') : s = s' := by
  obtain ⟨V, h1, h2, h3⟩ := h
  obtain ⟨W, q1, q2, q3⟩ := h'
  have : V = W := bitsN_inj h1 q1 (h2.trans q2.symm)
  rw [h3, q3, this]
theorem mod_bit (x r : Nat) (hr : r < 8) : x % 256 / 2 ^ r % 2 = x / 2 ^ r % 2 := by
  have : r = 0 ∨ r = 1 ∨ r = 2 ∨ r = 3 ∨ r = 4 ∨ r = 5 ∨ r = 6 ∨ r = 7 := by omega
  rcases this with rfl | rfl | rfl | rfl | rfl | rfl | rfl | rfl <;> omega
theorem packN_bit {V n i : Nat} (hi : i / 8 < (n + 7) / 8) : bitAt (packN V n) i = V / 2 ^ i % 2 := by
  unfold bitAt
  rw [List.getD_eq_getElem?_getD, packN_get hi]
  have h1 := nby_lt V (i / 8)
  have h2 : (UInt8.ofNat (nby V (i / 8))).toNat = nby V (i / 8) := by simp; omega
  show (UInt8.ofNat (nby V (i / 8))).toNat / 2 ^ (i % 8) % 2 = _
  rw [h2]
  unfold nby
  rw [mod_bit _ _ (Nat.mod_lt _ (by omega)), Nat.div_div_eq_div_mul, ← Nat.pow_add]
  have : 8 * (i / 8) + i % 8 = i := by omega
  rw [this]
/-- bytes are known by their bits -/
theorem bits_ext2 {s t : Bytes} (hl : s.length = t.length) (h : ∀ i, i < 8 * s.length → bitAt s i = bitAt t i) : s = t := by
  apply List.ext_getElem hl
  intro j h1 h2
  have e1 : s.getD j 0 = s[j] := by rw [List.getD_eq_getElem?_getD, List.getElem?_eq_getElem h1]; rfl
  have e2 : t.getD j 0 = t[j] := by rw [List.getD_eq_getElem?_getD, List.getElem?_eq_getElem h2]; rfl
  have := s[j].toNat_lt
  have := t[j].toNat_lt
  apply UInt8.toNat_inj.1
  refine bits_inj (n := 8) (by omega) (by omega) fun k hk => ?_
  have hh := h (8 * j + k) (by omega)
  unfold bitAt at hh
  have q1 : (8 * j + k) / 8 = j := by omega
  have q2 : (8 * j + k) % 8 = k := by omega
  rw [q1, q2, e1, e2] at hh
  exact hh
theorem packs_len {bits : List Int} {s : Bytes} (h : Packs bits s) : s.length = (bits.length + 7) / 8 := by
  obtain ⟨V, h1, h2, h3⟩ := h
  rw [h3, packN_len]
theorem packs_bit {bits : List Int} {s : Bytes} (h : Packs bits s) {i : Nat} (hi : i < bits.length) : bits[i]? = some ((bitAt s i : Nat) : Int) := by
  obtain ⟨V, h1, h2, h3⟩ := h
  rw [h3, packN_bit (by omega)]
  have := bitsN_get (V := V) hi
  rw [h2] at this; exact this
theorem packs_zero {bits : List Int} {s : Bytes} (h : Packs bits s) {i : Nat} (h1 : bits.length ≤ i) (h2 : i < 8 * s.length) : bitAt s i = 0 := by
  have hl := packs_len h
  obtain ⟨V, q1, q2, q3⟩ := h
  rw [q3, packN_bit (by omega)]
  have : 2 ^ bits.length ≤ 2 ^ i := Nat.pow_le_pow_right (by omega) h1
  rw [Nat.div_eq_of_lt (by omega)]
/-- bytes whose first bits are these, and that have but a few noughts behind them -/
theorem packs_of {bits : List Int} {s s' : Bytes} {a : Nat} (h : Packs bits s') (ha : bits.length = a) (h1 : (bitsB s).take a = bits) (h2 : a ≤ 8 * s.length) (h3 : 8 * s.length - a ≤ 7) (h4 : numB s a (8 * s.length - a) = 0) : s' = s := by
  have hl := packs_len h
  refine bits_ext2 (by omega) fun i hi => ?_
  by_cases hia : i < a
  · have q1 := packs_bit h (i := i) (by omega)
    have q2 := bitsB_get s i (by omega)
    rw [← h1, List.getElem?_take, if_pos hia, q2] at q1
    have := Option.some.inj q1
    omega
  · rw [packs_zero h (by omega) hi]
    have := (numB_zero s a _).1 h4 (i - a) (by omega)
    rw [show a + (i - a) = i by omega] at this
    exact this.symm
section
variable {l : List Int} {b s : Bytes}
theorem dec_enc (hw : wholeB l = true) (hok : okB l b) (hp : Packs (encB l b) s) : ∀ i, i ≤ b.length → decI l s i = some (b.take i, (encB l (b.take i)).length)
  | 0, _ => by simp [decI, encB]
  | i + 1, hi => by
    have hr : rightB l = true := by simp only [wholeB, Bool.and_eq_true] at hw; exact hw.1
    have hlen := right_len hr
    have ih := dec_enc hw hok hp i (by omega)
    obtain ⟨x, hx⟩ : ∃ x, b[i]? = some x := ⟨_, List.getElem?_eq_getElem (by omega)⟩
    have hox := hok x (List.mem_of_getElem? hx)
    have hxl : x.toNat < l.length := by
      rcases Nat.lt_or_ge x.toNat l.length with h | h
      · exact h
      · unfold at0 at hox; rw [List.getD_eq_getElem?_getD, List.getElem?_eq_none h] at hox; simp at hox
    have hsp : encB l b = encB l (b.take i) ++ (codeB l x.toNat ++ encB l (b.drop (i + 1))) := by
      have e2 : encB l (b.take (i + 1) ++ b.drop (i + 1)) = encB l (b.take (i + 1)) ++ encB l (b.drop (i + 1)) := by simp only [encB, List.flatMap_append]
      rw [List.take_append_drop] at e2
      rw [e2, encB_succ hx, List.append_assoc]
    have hll := congrArg List.length hsp
    simp only [List.length_append, codeB_len] at hll
    have hpl := packs_len hp
    have hbeg : Beg l s (encB l (b.take i)).length x.toNat := by
      refine (beg_iff hw hxl hox).1 ?_
      apply List.ext_getElem?
      intro j
      rw [codeB_len, List.getElem?_take]
      split
      · rename_i hj
        rw [List.getElem?_drop, bitsB_get s _ (by omega)]
        have := packs_bit hp (i := (encB l (b.take i)).length + j) (by omega)
        rw [← this, hsp, List.getElem?_append_right (by omega), List.getElem?_append_left (by rw [codeB_len]; omega)]
        congr 1; omega
      · rename_i hj
        rw [List.getElem?_eq_none (by rw [codeB_len]; omega)]
    have hxn : UInt8.ofNat x.toNat = x := by simp
    rw [decI_hit hr ih hbeg, hxn, encB_succ hx, List.length_append, codeB_len, List.take_add_one, hx]; rfl
theorem decF_enc (hw : wholeB l = true) (hok : okB l b) (hp : Packs (encB l b) s) : decF l s b.length = some b := by
  have h := dec_enc hw hok hp b.length (Nat.le_refl _)
  rw [List.take_length] at h
  have hpl := packs_len hp
  unfold decF
  rw [h]
  simp only [Option.bind_some]
  rw [if_pos ⟨by omega, (numB_zero _ _ _).2 fun i hi => packs_zero hp (by omega) (by omega)⟩]
theorem decF_back {n : Nat} {d s' : Bytes} (hw : wholeB l = true) (h : decF l s n = some d) (hp : Packs (encB l d) s') : s' = s ∧ okB l d ∧ d.length = n := by
  have hr : rightB l = true := by simp only [wholeB, Bool.and_eq_true] at hw; exact hw.1
  unfold decF at h
  simp only [Option.bind_eq_some_iff] at h
  obtain ⟨⟨d0, a⟩, h1, h2⟩ := h
  split at h2
  · rename_i hc
    simp only [Option.some.injEq] at h2
    subst h2
    obtain ⟨q1, q2, q3, q4⟩ := decI_inv hr n d0 a h1
    have hbl := bitsB_len s
    have hal : (encB l d0).length = a := by rw [← q3, List.length_take]; omega
    exact ⟨packs_of hp hal q3 q2 hc.1 hc.2, q4, q1⟩
  · cases h2
theorem decF_ok {n : Nat} {d : Bytes} (hw : wholeB l = true) (h : decF l s n = some d) : okB l d ∧ d.length = n := by
  have hr : rightB l = true := by simp only [wholeB, Bool.and_eq_true] at hw; exact hw.1
  unfold decF at h
  simp only [Option.bind_eq_some_iff] at h
  obtain ⟨⟨d0, a⟩, h1, h2⟩ := h
  split at h2
  · simp only [Option.some.injEq] at h2
    subst h2
    obtain ⟨q1, q2, q3, q4⟩ := decI_inv hr n d0 a h1
    exact ⟨q4, q1⟩
  · cases h2
end
end Go.Proofs.YtlboioplemlneaaGreat.K
