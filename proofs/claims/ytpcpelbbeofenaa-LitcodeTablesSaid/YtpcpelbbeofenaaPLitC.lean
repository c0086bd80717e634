/- Lengths as bytes: what the document reads. -/
import Derived.Test.YtpcpelbbeofenaaPLitB
set_option maxRecDepth 100000
set_option maxHeartbeats 2000000
set_option linter.unusedVariables false
set_option linter.unusedSimpArgs false
namespace Go.Proofs.Ytpcpelbbeofenaa.K
open Go Go.Proofs
theorem stp_zero {l : List Int} : ∀ n, stp l n = 0 → ∀ k, k < n → at0 l k = 0
  | 0, _, k, hk => by omega
  | n + 1, h, k, hk => by
    simp only [stp] at h
    split at h
    · by_cases e : k = n
      · subst e; assumption
      · exact stp_zero n h k (by omega)
    · omega
theorem whole_pos {l : List Int} (h : wholeB l = true) : 1 ≤ shortN l := by
  rcases Nat.eq_zero_or_pos (shortN l) with h0 | h0
  · exfalso
    have hz := stp_zero l.length h0
    have ht : total l = 0 := by
      unfold total
      have : sumTo (taken l) l.length = sumTo (fun _ => 0) l.length := sumTo_congr _ fun k hk => by
        unfold taken; rw [hz k hk]; simp
      rw [this]
      have hzz : ∀ n, sumTo (fun _ => 0) n = 0 := by
        intro n
        induction n with
        | zero => rfl
        | succ n ih => simp [sumTo, ih]
      exact hzz _
    simp only [wholeB, Bool.and_eq_true, Bool.or_eq_true, decide_eq_true_eq] at h
    omega
  · exact h0
def byteAt (s : Bytes) (i : Nat) : Int := ((s.getD i 0).toNat : Int)
theorem byteAt_bd (s : Bytes) (i : Nat) : 0 ≤ byteAt s i ∧ byteAt s i < 256 := by
  have := (s.getD i 0).toNat_lt
  unfold byteAt; omega
/-- half a byte -/
def nib (s : Bytes) (i : Nat) : Int := if i % 2 = 1 then byteAt s (1 + i / 2) / 16 else byteAt s (1 + i / 2) % 16
theorem nib_bd (s : Bytes) (i : Nat) : 0 ≤ nib s i ∧ nib s i < 16 := by
  have := byteAt_bd s (1 + i / 2)
  unfold nib; split <;> omega
def nibs (s : Bytes) (n : Nat) : List Int := (List.range n).map (nib s)
theorem nibs_len (s : Bytes) (n : Nat) : (nibs s n).length = n := by simp [nibs]
theorem nibs_succ (s : Bytes) (n : Nat) : nibs s (n + 1) = nibs s n ++ [nib s n] := by simp [nibs, List.range_succ]
theorem nibs_get {s : Bytes} {n i : Nat} (h : i < n) : (nibs s n)[i]? = some (nib s i) := by simp [nibs, h]
def hdN (s : Bytes) : Nat := (s.headD 0).toNat + 1
theorem hdN_bd (s : Bytes) : 1 ≤ hdN s ∧ hdN s ≤ 256 := by
  have := (s.headD 0).toNat_lt
  unfold hdN; omega
def atN (s : Bytes) : Nat := 1 + (hdN s + 1) / 2
/-- may the document read it? -/
def rok (s : Bytes) : Prop := s ≠ [] ∧ atN s ≤ s.length ∧ wholeB (nibs s (hdN s)) = true ∧ tableOf (nibs s (hdN s)) = s.take (atN s)
instance (s : Bytes) : Decidable (rok s) := by unfold rok; infer_instance
theorem acc_is {N M n : Nat} {H : Heap} {v : Value} {l : List Int} (h : Acc 3 1 N M H v n (ints l)) (hn : l.length = n) : Is H v l := by
  rcases h with ⟨h1, h2, rfl⟩ | ⟨b, c, h1, h2, rfl, hc, h4, h5⟩
  · exact .inl ⟨rfl, by cases l with | nil => rfl | cons x l => simp [ints] at h2⟩
  · subst hn
    exact .inr ⟨b, 0, c, ints l, true, rfl, by omega, h4, fun i x hx => by simp [ints, hx]⟩
section
variable {H : Heap}
theorem byteAt_get {s : Bytes} {i : Nat} {b : UInt8} (h : s[i]? = some b) : byteAt s i = b.toNat := by
  unfold byteAt; rw [List.getD_eq_getElem?_getD, h]; rfl
theorem bv_int (b : UInt8) : bv b = .int .u8 b.toNat := rfl
def RR (s : Bytes) (v : Value) (H' : Heap) : Prop := if rok s then ∃ v', v = .tuple #[v', .int .i64 (atN s)] ∧ Is H' v' (nibs s (hdN s)) else v = .tuple #[.slice none 0 0, .int .i64 0]
theorem RR.no {s : Bytes} {H' : Heap} (h : ¬ rok s) : RR s (.tuple #[.slice none 0 0, .int .i64 0]) H' := by unfold RR; rw [if_neg h]
theorem RR.yes {s : Bytes} {H' : Heap} {v' : Value} (h : rok s) (hi : Is H' v' (nibs s (hdN s))) : RR s (.tuple #[v', .int .i64 (atN s)]) H' := by unfold RR; rw [if_pos h]; exact ⟨v', rfl, hi⟩
def RI (H0 : Heap) (s : Bytes) (d : Nat) (e0 e4 e5 e6 e7 : Value) (H : Heap) : Prop := ∃ i : Nat, i ≤ hdN s ∧ d = hdN s - i ∧ Kp H0.next H0 H ∧ H0.next ≤ H.next ∧ e0 = .string (ofL s) ∧ e4 = .int .i64 (hdN s) ∧ e5 = .int .i64 (atN s) ∧ Acc 3 1 H0.next H.next H e6 i (ints (nibs s i)) ∧ e7 = .int .i64 i
theorem rRead_t (s : Bytes) (hs : s.length ≤ 100000) : Wf S 44 [.string (ofL s)] H fun v H' => Kp H.next H H' ∧ RR s v H' := by
  refine w44 rfl rfl _ ?_
  by_cases h0 : s = []
  · have hr : ¬ rok s := fun h => h.1 h0
    have := RR.no (H' := H) hr
    simp [s44, bs_ofL, s_eql, h0, tup]
    exact ⟨Kp.refl _ _, h0 ▸ this⟩
  cases s with
  | nil => exact absurd rfl h0
  | cons c0 s0 =>
  obtain ⟨s, hsd⟩ : ∃ s, s = c0 :: s0 := ⟨_, rfl⟩
  rw [← hsd] at hs h0 ⊢
  have hget0 : s[0]? = some c0 := by rw [hsd]; rfl
  have hc0 := c0.toNat_lt
  have hhd : (hdN s : Int) = (c0.toNat : Int) + 1 := by rw [hsd]; simp [hdN]
  have hbd := hdN_bd s
  have hwc : IntKind.i64.wrap (c0.toNat : Int) = c0.toNat := wi (by omega) (by omega)
  have hw1 : IntKind.i64.wrap ((c0.toNat : Int) + 1) = hdN s := by rw [wi (by omega) (by omega)]; omega
  have hw2 : IntKind.i64.wrap ((hdN s : Int) + 1) = (hdN s : Int) + 1 := wi (by omega) (by omega)
  have hq : ((hdN s : Int) + 1).tdiv 2 = ((hdN s : Int) + 1) / 2 := Int.tdiv_eq_ediv_of_nonneg (by omega)
  have hw3 : IntKind.i64.wrap (((hdN s : Int) + 1) / 2) = ((hdN s : Int) + 1) / 2 := wi (by omega) (by omega)
  have hw4 : IntKind.i64.wrap (1 + ((hdN s : Int) + 1) / 2) = (atN s : Int) := by rw [wi (by omega) (by omega)]; unfold atN; omega
  have hid : ∀ {K : Kv}, run S (.idS (.c (.string (ofL s))) (.c (.int .i64 0))) [] H K = K (bv c0) H := fun {K} => s_at (i := 0) hget0
  simp only [s44, bs_ofL, run_bin, s_eql, List.map_nil, decide_eq_false h0, oV_some, jn_eq, cnd_false, sq_normal, upd_i]
  by_cases h1 : s.length < atN s
  · have hr : ¬ rok s := fun h => by have := h.2.1; omega
    have hno := RR.no (H' := H) hr
    have h1' : (s.length : Int) < atN s := by omega
    simp [hid, bv_int, hwc, hw1, hw2, hq, hw3, hw4, ofL_size, h1, tup]
    exact ⟨Kp.refl _ _, hno⟩
  have h1' : ¬ (s.length : Int) < atN s := by omega
  simp [hid, bv_int, hwc, hw1, hw2, hq, hw3, hw4, ofL_size, h1]
  refine l44_0 S (fun d e H' => RI H s d (e 0) (e 4) (e 5) (e 6) (e 7) H') (hdN s) ⟨0, by omega, by omega, Kp.refl _ _, Nat.le_refl _, by simp, by simp, by simp, by simpa [nibs, ints] using Acc.nil, by simp⟩ ?_
  rintro d e H1 ⟨i, hi, rfl, hk, hn, e0, e4, e5, hA, e7⟩
  by_cases h3 : i < hdN s
  · have hat : 1 + i / 2 < s.length := by unfold atN at h1; omega
    obtain ⟨b, hb⟩ : ∃ b, s[1 + i / 2]? = some b := ⟨_, List.getElem?_eq_getElem hat⟩
    have hbb := b.toNat_lt
    have hba := byteAt_get hb
    have hq2 : (i : Int).tdiv 2 = (i : Int) / 2 := Int.tdiv_eq_ediv_of_nonneg (by omega)
    have hm2 : (i : Int).tmod 2 = (i : Int) % 2 := Int.tmod_eq_emod_of_nonneg (by omega)
    have hq3 : (b.toNat : Int).tdiv 16 = (b.toNat : Int) / 16 := Int.tdiv_eq_ediv_of_nonneg (by omega)
    have hm3 : ((b.toNat : Int) / 16).tmod 16 = ((b.toNat : Int) / 16) % 16 := Int.tmod_eq_emod_of_nonneg (by omega)
    have hm4 : (b.toNat : Int).tmod 16 = (b.toNat : Int) % 16 := Int.tmod_eq_emod_of_nonneg (by omega)
    have hw5 : IntKind.i64.wrap ((i : Int) / 2) = (i : Int) / 2 := wi (by omega) (by omega)
    have hw6 : IntKind.i64.wrap (1 + (i : Int) / 2) = 1 + (i : Int) / 2 := wi (by omega) (by omega)
    have hw7 : IntKind.i64.wrap ((i : Int) + 1) = (i : Int) + 1 := wi (by omega) (by omega)
    have hwb : IntKind.i64.wrap (b.toNat : Int) = b.toNat := wi (by omega) (by omega)
    have hwd : IntKind.i64.wrap ((b.toNat : Int) / 16) = (b.toNat : Int) / 16 := wi (by omega) (by omega)
    have hid2 : ∀ {K : Kv}, run S (.idS (.c (.string (ofL s))) (.c (.int .i64 (1 + (i : Int) / 2)))) [] H1 K = K (bv b) H1 := fun {K} => by
      rw [show 1 + (i : Int) / 2 = ((1 + i / 2 : Nat) : Int) by omega]; exact s_at hb
    have hlen := nibs_len s i
    obtain ⟨v', H', hap, hA', hn', hk'⟩ := hA.app (bytes := 8) (new := [.int .i64 (nib s i)]) hn (Nat.le_refl _) rfl (by unfold roomMax; omega)
    have hT : RI H s (hdN s - (i + 1)) (.string (ofL s)) (.int .i64 (hdN s)) (.int .i64 (atN s)) v' (.int .i64 ((i : Int) + 1)) H' := by
      refine ⟨i + 1, by omega, by omega, ⟨by have := hk.1; omega, fun k hk0 => (hk' k (by omega) (.inl hk0)).trans (hk.2 k hk0)⟩, by omega, rfl, rfl, rfl, ?_, by congr 1⟩
      rw [nibs_succ]
      have : ints (nibs s i ++ [nib s i]) = ints (nibs s i) ++ [.int .i64 (nib s i)] := by simp [ints]
      rw [this]; exact hA'
    by_cases g : i % 2 = 1
    · have g' : (i : Int) % 2 = 1 := by omega
      have hne : ((b.toNat : Int) / 16) % 16 = nib s i := by unfold nib; rw [if_pos g, hba]; omega
      simp [-run_idS, s44_0, e0, e4, e7, h3, hq2, hw5, hw6, hid2]
      simp [bv_int, hwb, hm2, g', e0, e4, e5, e7, hq3, hwd, hm3, hne, kFill, evPs, isTup, cellsL, wr, kRow, rd, hap, hw7]
      exact ⟨_, by omega, hT⟩
    · have g' : ¬ (i : Int) % 2 = 1 := by omega
      have hne : (b.toNat : Int) % 16 = nib s i := by unfold nib; rw [if_neg g, hba]
      simp [-run_idS, s44_0, e0, e4, e7, h3, hq2, hw5, hw6, hid2]
      simp [bv_int, hwb, hm2, g', e0, e4, e5, e7, hm4, hne, kFill, evPs, isTup, cellsL, wr, kRow, rd, hap, hw7]
      exact ⟨_, by omega, hT⟩
  · have h5 : i = hdN s := by omega
    subst h5
    have his := acc_is hA (nibs_len s (hdN s))
    obtain ⟨a6, c6, he6, hiv⟩ := his.iv
    rw [nibs_len] at he6
    simp [s44_0, e0, e4, e5, e7, he6]
    rw [he6] at his
    have hww := rWhole_t (c := c6) hiv (by rw [nibs_len]; omega)
    rw [nibs_len] at hww
    refine hww.mono ?_
    rintro r H2 ⟨rfl, rfl⟩
    by_cases hwh : wholeB (nibs s (hdN s)) = true
    · have hri : rightB (nibs s (hdN s)) = true := by simp only [wholeB, Bool.and_eq_true] at hwh; exact hwh.1
      have hsa : (atN s : Int) ≤ s.length := by omega
      have hsa' : atN s ≤ s.length := by omega
      have hup : ∀ {K : Kv}, run S (.slS (.c (.string (ofL s))) none (some (.c (.int .i64 (atN s))))) [] H2 K = K (.string (ofL (s.take (atN s)))) H2 := fun {K} => by
        rw [s_upto, if_pos ⟨by omega, hsa⟩]; simp
      simp [hwh, e0, e5, hup]
      refine (rTable_t his (by rw [nibs_len]; omega) (right_all hri) (whole_pos hwh)).mono ?_
      rintro r H3 ⟨rfl, hk3⟩
      have hK : Kp H.next H H3 := hk.trans (hk3.mono hn)
      by_cases ht : tableOf (nibs s (hdN s)) = s.take (atN s)
      · have hyes := RR.yes (s := s) ⟨h0, hsa', hwh, ht⟩ (his.kp hk3)
        simp [s_neq, ht, tup, he6, e5]
        exact ⟨hK, hyes⟩
      · have hno := RR.no (s := s) (H' := H3) (fun h => ht h.2.2.2)
        simp [s_neq, ht, tup]
        exact ⟨hK, hno⟩
    · have hno := RR.no (s := s) (H' := H2) (fun h => hwh h.2.2.1)
      simp [hwh, tup]
      exact ⟨hk, hno⟩
end
end Go.Proofs.Ytpcpelbbeofenaa.K
