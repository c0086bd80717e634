/- Bytes of a code, as the program reads them. -/
import Derived.Test.YtlboioplemlneaaPBitsQ
set_option maxRecDepth 100000
set_option maxHeartbeats 2000000
set_option linter.unusedVariables false
set_option linter.unusedSimpArgs false
namespace Go.Proofs.Ytlboioplemlneaa.K
open Go Go.Proofs
theorem Rx.of {H H' : Heap} {x b : Nat} {F C St : Nat → Nat} {o : Bytes} (h : Rx H x b F C St o) (hk : ∀ k, k < H.next → k ≠ b → H'.get k = H.get k) : Rx H' x b F C St o := by
  obtain ⟨cs, oa, oc, h1, h2, h3, h4, h5, h6, h7⟩ := h
  refine ⟨cs, oa, oc, (hk x (lt_cells h1) h2).trans h1, h2, h3, h4, h5, h6, fun hp => ?_⟩
  obtain ⟨ob, q1, q2, q3⟩ := h7 hp
  exact ⟨ob, q1, q2, (hk ob (lt_cells q3) q2).trans q3⟩
theorem By.of {H H' : Heap} {b : Nat} {sv : Value} {s : Bytes} (h : By H b sv s) (hk : ∀ k, k < H.next → k ≠ b → H'.get k = H.get k) : By H' b sv s := by
  obtain ⟨a, c, h1, h2⟩ := h
  refine ⟨a, c, h1, fun hp => ?_⟩
  obtain ⟨bb, q1, q2, q3⟩ := h2 hp
  exact ⟨bb, q1, q2, (hk bb (lt_cells q3) q2).trans q3⟩
/-- a reader of codes that was made ready -/
theorem Rc.rx {H0 H : Heap} {N : Nat} {F C St : Nat → Nat} {o : Bytes} {cs : List Value} {ov : Value} (h : Rc H0 N F C St o H cs ov) {b : Nat} (hb : H.next ≤ b) : Rx H N b F C St o := by
  have hlt := h.lt
  obtain ⟨a, c, rfl, ha⟩ := h.a.len
  refine ⟨cs, a, c, h.hx, by omega, h.f, h.c, h.s, h.od, fun hp => ?_⟩
  obtain ⟨ob, q1, q2⟩ := ha hp
  exact ⟨ob, q1, by have := lt_cells q2; omega, q2⟩
section
variable {H : Heap} {a : Option Addr} {c : Nat} {l : List Int} {s : Bytes}
structure DecJ (HB : Heap) (x b : Nat) (sv : Value) (l : List Int) (s : Bytes) (n : Nat) (d : Nat) (e : Fe) (H : Heap) (i : Nat) : Prop where
  h1 : i ≤ n
  h2 : d = n - i
  r : ∃ t at_, decI l s i = some (t, at_) ∧ H.get b = BrB sv at_ ∧ Acc 5 1 HB.next H.next H (e 10) i (bvs t)
  nx : HB.next ≤ H.next
  kp : ∀ k, k < HB.next → k ≠ b → H.get k = HB.get k
  e8 : e 8 = .pointer (some ⟨x, 0, none⟩)
  e9 : e 9 = .pointer (some ⟨b, 0, none⟩)
  e32 : e 32 = .int .i64 n
  e33 : e 33 = .int .i64 i
theorem Decode_t (hl : Iv H a l) (hm : (l.length : Int) ≤ 9223372036854775807) (hs : s.length ≤ 100000) (n : Int) :
    Wf S 23 [.slice a l.length c, .string (ofL s), .int .i64 n] H fun v H' => Kp H.next H H' ∧
      if wholeB l = true ∧ 0 ≤ n ∧ n ≤ 1048576 then
        match decF l s n.toNat with
        | some d => ∃ w, v = .tuple #[w, .bool true] ∧ Acc 5 1 H.next H'.next H' w d.length (bvs d)
        | none => v = .tuple #[.slice none 0 0, .bool false]
      else v = .tuple #[.slice none 0 0, .bool false] := by
  refine w23 rfl rfl _ _ _ ?_
  simp [s23]
  refine (Whole_t hl hm).mono ?_
  rintro v H1 ⟨rfl, rfl⟩
  by_cases hw : wholeB l = true
  case neg =>
    simp [hw, tup]
    exact Kp.refl _ _
  by_cases hn0 : n < 0
  · have : ¬ 0 ≤ n := by omega
    simp [hw, hn0, this, tup]
    exact Kp.refl _ _
  by_cases hn1 : 1048576 < n
  · have : ¬ n ≤ 1048576 := by omega
    simp [hw, hn0, hn1, this, tup]
    exact Kp.refl _ _
  have hr : rightB l = true := by simp only [wholeB, Bool.and_eq_true] at hw; exact hw.1
  have hlen := right_len hr
  have hall := right_all hr
  obtain ⟨m, rfl⟩ : ∃ m : Nat, n = (m : Int) := ⟨n.toNat, by omega⟩
  have hcond : wholeB l = true ∧ 0 ≤ (m : Int) ∧ (m : Int) ≤ 1048576 := ⟨hw, by omega, by omega⟩
  simp only [eq_true hcond, if_true, Int.toNat_natCast]
  simp [hw, hn0, hn1]
  refine (ready_t hl hr).mono ?_
  rintro v H2 ⟨rfl, cs, ov, hrc⟩
  have hsr : s.length ≤ roomMax := by unfold roomMax; omega
  have hs2 := fun K => s_s2b (S := S) (e := []) (H := H2) (K := K) (t := 5) hsr
  simp [hs2]
  have hk3 : Kp H2.next H2 (H2.push (.cells (bvs s) 5 true)) := Kp.push (Nat.le_refl _)
  have hrow : kRow (H2.push (.cells (bvs s) 5 true)) 5 1 s.length (some ⟨H2.next, 0, none⟩) = some (bvs s) := by
    simp [kRow, rd, bvs_len]
    rw [← bvs_len s, List.take_length]
  generalize H2.push (.cells (bvs s) 5 true) = H3 at *
  refine (NewReader_t (c := capx) hrow (by omega)).mono ?_
  rintro v H4 ⟨sv, b, rfl, hb1, hb2, hgb, hby, hk4⟩
  have hn2 := hk3.1
  have hn3 := hk4.1
  have hrx : Rx H4 H1.next b (Fq l 12) (Cq l 12) (Sq l 12) (ordAt l 12 0) := (hrc.rx (by omega)).of fun k hk _ => (hk4.2 k (by omega)).trans (hk3.2 k hk)
  have hkp4 : Kp H1.next H1 H4 := hrc.kp.trans ((hk3.mono hrc.kp.1).trans (hk4.mono (by have := hrc.kp.1; omega)))
  have hob := ordAt_bd hlen 12
  have htot : total l ≤ 2048 := by
    simp only [wholeB, Bool.and_eq_true, Bool.or_eq_true, decide_eq_true_eq] at hw
    rcases hw.2 with h | h <;> omega
  have hF : ∀ n, n ≤ 12 → Fq l 12 n ≤ 100000 := fun n hn => by
    unfold Fq
    split
    · rename_i h
      have h1 := codeAt_ahead (l := l) n (by omega) (by omega) 0 (by omega)
      have h2 := ahead_total l n 0
      have h3 := part_pos (n : Int)
      rcases Int.lt_or_le 100000 (codeAt l n 0) with h4 | h4
      · have : codeAt l n 0 * 1 ≤ codeAt l n 0 * part n := Int.mul_le_mul_of_nonneg_left (by omega) (by omega)
        omega
      · omega
    · omega
  have hC : ∀ n, n ≤ 12 → Cq l 12 n ≤ 1000 := fun n _ => by
    unfold Cq
    split
    · have := cntS_le l n l.length; omega
    · omega
  have hSt : ∀ n, n ≤ 12 → Sq l 12 n + Cq l 12 n ≤ (ordAt l 12 0).length := fun n hn => by
    unfold Sq Cq
    split
    · rename_i h
      obtain ⟨m, rfl⟩ : ∃ m, n = m + 1 := ⟨n - 1, by omega⟩
      rw [ordAt_le]
      obtain ⟨q, hq⟩ := Nat.exists_eq_add_of_le (show m + 1 + 1 ≤ 12 by omega)
      have p2 := (ord_pre2 (l := l) (n := m + 1) (by omega) q).length_le
      rw [← hq] at p2
      exact p2
    · omega
  refine l23_0 S (fun d e H' => ∃ i, DecJ H4 H1.next b sv l s m d e H' i) m ⟨0, by omega, by omega, ⟨[], 0, rfl, hgb, Acc.nil⟩, Nat.le_refl _, fun k _ _ => rfl, by simp, by simp, by simp, by simp⟩ ?_
  rintro d e H' ⟨i, hi, rfl, ⟨t, at_, hdec, hg, hA⟩, hnx, hkp, e8, e9, e32, e33⟩
  have hrx' := hrx.of hkp
  have hby' := hby.of hkp
  obtain ⟨d1, d2, d3, d4⟩ := decI_inv hr i t at_ hdec
  have hkp1 : Kp H1.next H1 H' := ⟨by have := hkp4.1; omega, fun k hk => (hkp k (by have := hkp4.1; omega) (by have := hrc.kp.1; omega)).trans (hkp4.2 k hk)⟩
  by_cases h3 : i < m
  · have w2 : IntKind.i64.wrap ((i : Int) + 1) = (i : Int) + 1 := wi (by omega) (by omega)
    simp [s23_0, e8, e9, e32, e33, h3]
    refine (next_t hrx' hg hby' (by omega) d2 hF hC hSt (by omega)).mono ?_
    rintro v H5 (⟨n, hn, hfit, hnot, hhit, rfl, rfl⟩ | ⟨rfl, q, hq, hnot, hq2, rfl⟩)
    · obtain ⟨k, hbk, hak, hsym⟩ := hit_sym hr (by omega) hn hfit hhit
      rw [hsym]
      have hdn := decI_hit hr hdec hbk
      have hakn : (at0 l k).toNat = n + 1 := by omega
      rw [hakn] at hdn
      have hbl : b < H'.next := by omega
      obtain ⟨HX, hHX⟩ : ∃ HX, HX = H'.put b (BrB sv (at_ + (n + 1))) := ⟨_, rfl⟩
      have hgX : HX.get b = BrB sv (at_ + (n + 1)) := by rw [hHX]; exact get_put_eq hbl
      have hnX : HX.next = H'.next := by rw [hHX]; exact next_put
      have hAX : Acc 5 1 H4.next HX.next HX (e 10) i (bvs t) := by rw [hnX, hHX]; exact hA.kp fun k hk _ => get_put_ne (by omega)
      have hkX : ∀ k, k < H4.next → k ≠ b → HX.get k = H4.get k := fun k h1 h2 => by rw [hHX, get_put_ne h2]; exact hkp k h1 h2
      rw [← hHX]
      obtain ⟨u, hu⟩ : ∃ u, u = UInt8.ofNat k := ⟨_, rfl⟩
      rw [← hu] at hdn ⊢
      obtain ⟨v2, H6, hap, hA6, hn6, hk6⟩ := hAX.app (bytes := 1) (new := [bv u]) (by omega) (Nat.le_refl _) rfl (by unfold roomMax; omega)
      unfold bv at hap ⊢
      simp [e33, kFill, evPs, isTup, cellsL, wr, kRow, rd, hap, w2]
      refine ⟨m - (i + 1), by omega, i + 1, by omega, rfl, ⟨t ++ [u], at_ + (n + 1), hdn, (hk6 b (by omega) (.inl (by omega))).trans hgX, by simpa [bvs, bv] using hA6⟩, by omega, fun k h1 h2 => (hk6 k (by omega) (.inl (by omega))).trans (hkX k h1 h2), by simp [e8], by simp [e9], by simp [e32], by simp⟩
    · have hmiss : ∀ k, ¬ Beg l s at_ k := fun k hb => by
        have hh := beg_hit hr hb
        have := hall k
        obtain ⟨b1, b2, b3, b4⟩ := hb
        exact hnot _ (by omega) (by omega) hh
      have hdn := decI_miss hdec hmiss
      obtain ⟨j, hj⟩ := Nat.exists_eq_add_of_le (show i + 1 ≤ m by omega)
      have hdm := decI_none hdn j
      rw [← hj] at hdm
      have hF0 : decF l s m = none := by unfold decF; rw [hdm]; rfl
      simp [hF0, tup]
      exact hkp1.trans (Kp.put (by have := hrc.kp.1; have := hkp4.1; omega))
  · have h5 : i = m := by omega
    subst h5
    simp [s23_0, e8, e9, e32, e33]
    refine (Left_t hg hby' (by omega) d2).mono ?_
    rintro v H5 ⟨rfl, rfl⟩
    obtain ⟨L, hL⟩ : ∃ L, L = 8 * s.length - at_ := ⟨_, rfl⟩
    rw [← hL]
    have hmn : min (L : Int) 8 = ((min L 8 : Nat) : Int) := by omega
    simp [hmn]
    refine (Take_t hg hby' (by omega) d2 (min L 8) (by omega)).mono ?_
    intro v H6 hv
    rw [if_pos (by omega)] at hv
    obtain ⟨rfl, rfl⟩ := hv
    have hkp6 : Kp H1.next H1 (H5.put b (BrB sv (at_ + min L 8))) := hkp1.trans (Kp.put (by have := hrc.kp.1; have := hkp4.1; omega))
    have hA6 : Acc 5 1 H1.next (H5.put b (BrB sv (at_ + min L 8))).next (H5.put b (BrB sv (at_ + min L 8))) (e 10) i (bvs t) := by
      rw [next_put]
      rcases hA.kp (H' := H5.put b (BrB sv (at_ + min L 8))) fun k hk _ => get_put_ne (by omega) with h | ⟨b', c', q1, q2, q3⟩
      · exact .inl h
      · exact .inr ⟨b', c', by have := hkp4.1; omega, q2, q3⟩
    have hfd : decF l s i = if L ≤ 7 ∧ numB s at_ L = 0 then some t else none := by unfold decF; rw [hdec]; simp only [Option.bind_some, hL]
    rw [hfd]
    by_cases g1 : 7 < L
    · have g1' : ¬ L ≤ 7 := by omega
      have g1i : (7 : Int) < L := by omega
      simp [g1, g1', g1i, tup]
      exact hkp6
    · have g1' : L ≤ 7 := by omega
      have g1i : ¬ (7 : Int) < L := by omega
      have hmL : min L 8 = L := by omega
      rw [hmL] at hkp6 hA6 ⊢
      by_cases g2 : numB s at_ L = 0
      · simp [g1, g1', g1i, g2, tup]
        exact ⟨hkp6, by rw [d1]; exact hA6⟩
      · simp [g1, g1', g1i, g2, tup]
        exact hkp6
end
end Go.Proofs.Ytlboioplemlneaa.K
