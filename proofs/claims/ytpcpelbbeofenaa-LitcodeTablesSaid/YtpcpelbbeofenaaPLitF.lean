/- Lengths as bytes: what is written is read again. -/
import Derived.Test.YtpcpelbbeofenaaPLitE
set_option maxRecDepth 100000
set_option maxHeartbeats 2000000
set_option linter.unusedVariables false
set_option linter.unusedSimpArgs false
namespace Go.Proofs.Ytpcpelbbeofenaa.K
open Go Go.Proofs
theorem short_at0 (l : List Int) (k : Nat) : at0 (short l) k = at0 l k := by
  rcases Nat.lt_or_ge k (shortN l) with h | h
  · exact short_at h
  · rw [short_out h]
    have key : ∀ n, ∀ k, stp l n ≤ k → k < n → at0 l k = 0 := by
      intro n
      induction n with
      | zero => intro k _ h; omega
      | succ n ih =>
        intro k h1 h2
        simp only [stp] at h1
        split at h1
        · by_cases e : k = n
          · subst e; assumption
          · exact ih k h1 (by omega)
        · omega
    rcases Nat.lt_or_ge k l.length with h2 | h2
    · exact (key l.length k h h2).symm
    · unfold at0; rw [List.getD_eq_getElem?_getD, List.getElem?_eq_none h2]; rfl
theorem sumTo_more {f : Nat → Int} {n : Nat} : ∀ m, (∀ k, n ≤ k → f k = 0) → sumTo f (n + m) = sumTo f n
  | 0, _ => rfl
  | m + 1, h => by
    rw [show n + (m + 1) = n + m + 1 by omega]
    simp only [sumTo, sumTo_more m h, h (n + m) (by omega)]; omega
theorem cnt_more {l : List Int} {n : Nat} : ∀ m, (∀ k, n ≤ k → at0 l k = 0) → cntP l (n + m) = cntP l n
  | 0, _ => rfl
  | m + 1, h => by
    rw [show n + (m + 1) = n + m + 1 by omega]
    simp only [cntP, cnt_more m h, h (n + m) (by omega)]; simp
theorem cnt_congr {l l' : List Int} : ∀ n, (∀ k, at0 l k = at0 l' k) → cntP l n = cntP l' n
  | 0, _ => rfl
  | n + 1, h => by simp only [cntP, cnt_congr n h, h n]
theorem short_zero (l : List Int) (k : Nat) (h : shortN l ≤ k) : at0 l k = 0 := by rw [← short_at0]; exact short_out h
theorem short_total (l : List Int) : total (short l) = total l ∧ cntP (short l) (short l).length = cntP l l.length := by
  have hle := shortN_le l
  obtain ⟨m, hm⟩ := Nat.exists_eq_add_of_le hle
  constructor
  · unfold total
    rw [short_len]
    have h1 : sumTo (taken (short l)) (shortN l) = sumTo (taken l) (shortN l) := sumTo_congr _ fun k _ => by unfold taken; rw [short_at0]
    rw [h1]
    rw [hm]
    exact (sumTo_more m fun k hk => by unfold taken; rw [short_zero l k hk]; simp).symm
  · rw [short_len, cnt_congr _ (short_at0 l)]
    rw [hm]
    exact (cnt_more m fun k hk => short_zero l k hk).symm
theorem short_whole {l : List Int} (h : wholeB l = true) : wholeB (short l) = true := by
  obtain ⟨h1, h2⟩ := short_total l
  have hr : rightB (short l) = true := by
    have hr : rightB l = true := by simp only [wholeB, Bool.and_eq_true] at h; exact h.1
    simp only [rightB, Bool.and_eq_true, decide_eq_true_eq] at hr ⊢
    refine ⟨?_, by have := shortN_le l; rw [short_len]; omega⟩
    rw [List.all_eq_true] at hr ⊢
    intro x hx
    exact hr.1 x (List.mem_of_mem_take hx)
  simp only [wholeB, Bool.and_eq_true] at h ⊢
  refine ⟨hr, ?_⟩
  rw [h1, h2]; exact h.2
theorem short_short (l : List Int) : shortN (short l) = shortN l := by
  have key : ∀ n, stp (short l) n = stp l n := by
    intro n
    induction n with
    | zero => rfl
    | succ n ih => simp only [stp, short_at0, ih]
  unfold shortN
  rw [key]
  have hle := shortN_le l
  rw [short_len]
  -- stripping what is stripped changes nothing
  have h2 : ∀ n, stp l (stp l n) = stp l n := by
    intro n
    induction n with
    | zero => rfl
    | succ n ih =>
      simp only [stp]
      split
      · exact ih
      · rename_i h; simp only [stp]; rw [if_neg h]
  exact h2 l.length
/-- what is written is read again, whatever stands behind -/
theorem back {l : List Int} (h : wholeB l = true) (r : Bytes) : rok (tableOf l ++ r) ∧ nibs (tableOf l ++ r) (hdN (tableOf l ++ r)) = short l ∧ (tableOf l ++ r).drop (atN (tableOf l ++ r)) = r := by
  have hr : rightB l = true := by simp only [wholeB, Bool.and_eq_true] at h; exact h.1
  have hall := right_all hr
  have hlen := right_len hr
  have hpos := whole_pos h
  have hle := shortN_le l
  have hsat : ∀ k, 0 ≤ at0 (short l) k ∧ at0 (short l) k ≤ 11 := fun k => by rw [short_at0]; exact hall k
  have hu : ((u8 ((shortN l : Int) - 1)).toNat : Int) = (shortN l : Int) - 1 := u8_nat (by omega) (by omega)
  have hhd : hdN (tableOf l ++ r) = shortN l := by
    unfold hdN tableOf
    simp only [List.cons_append, List.headD_cons]; omega
  have htl : (tableOf l).length = 1 + (shortN l + 1) / 2 := by unfold tableOf; simp [tabs_len]; omega
  have hat : atN (tableOf l ++ r) = (tableOf l).length := by unfold atN; rw [hhd, htl]
  have hbyte : ∀ j, j < (shortN l + 1) / 2 → byteAt (tableOf l ++ r) (1 + j) = at0 (short l) (2 * j) + 16 * at0 (short l) (2 * j + 1) := by
    intro j hj
    have hg : (tableOf l ++ r)[1 + j]? = some (pairB (short l) j) := by
      rw [List.getElem?_append_left (by rw [htl]; omega)]
      unfold tableOf
      rw [Nat.add_comm 1 j, List.getElem?_cons_succ, tabs_get hj]
    rw [byteAt_get hg]
    unfold pairB
    have h1 := hsat (2 * j)
    have h2 := hsat (2 * j + 1)
    exact u8_nat (by omega) (by omega)
  have hn : nibs (tableOf l ++ r) (shortN l) = short l := by
    apply List.ext_getElem?
    intro i
    rcases Nat.lt_or_ge i (shortN l) with hi | hi
    · rw [nibs_get hi]
      have hsi : (short l)[i]? = some (at0 (short l) i) := by
        have hlt : i < (short l).length := by rw [short_len]; exact hi
        unfold at0
        rw [List.getD_eq_getElem?_getD, List.getElem?_eq_getElem hlt]; rfl
      rw [hsi]
      congr 1
      have hb := hbyte (i / 2) (by omega)
      have h1 := hsat (2 * (i / 2))
      have h2 := hsat (2 * (i / 2) + 1)
      unfold nib
      split
      · rename_i hm
        have e : 2 * (i / 2) + 1 = i := by omega
        have h3 : at0 (short l) (2 * (i / 2) + 1) = at0 (short l) i := by rw [e]
        rw [hb]; omega
      · rename_i hm
        have e : 2 * (i / 2) = i := by omega
        have h3 : at0 (short l) (2 * (i / 2)) = at0 (short l) i := by rw [e]
        rw [hb]; omega
    · rw [List.getElem?_eq_none (by rw [nibs_len]; exact hi), List.getElem?_eq_none (by rw [short_len]; exact hi)]
  refine ⟨⟨?_, ?_, ?_, ?_⟩, ?_, ?_⟩
  · unfold tableOf; simp
  · rw [hat]; simp
  · rw [hhd, hn]; exact short_whole h
  · rw [hhd, hn, hat, List.take_append_of_le_length (Nat.le_refl _), List.take_length]
    unfold tableOf
    rw [short_short]
    have : short (short l) = short l := short_full (by rw [short_short, short_len])
    rw [this]
  · rw [hhd]; exact hn
  · rw [hat]; simp
section
variable {H : Heap}
theorem same10_t {v1 v2 : Value} {l : List Int} (h1 : Is H v1 l) (h2 : Is H v2 l) (hm : l.length ≤ 100000) : Wf S 41 [v1, v2] H fun v H' => H' = H ∧ v = .bool true := by
  refine w41 rfl rfl _ _ ?_
  obtain ⟨a1, c1, rfl, i1⟩ := h1.iv
  obtain ⟨a2, c2, rfl, i2⟩ := h2.iv
  simp [s41]
  refine l41_0 S (fun d e H' => ∃ i : Nat, i ≤ l.length ∧ d = l.length - i ∧ H' = H ∧ e 0 = .slice a1 l.length c1 ∧ e 1 = .slice a2 l.length c2 ∧ e 12 = .int .i64 l.length ∧ e 13 = .int .i64 i) l.length ⟨0, by omega, by omega, rfl, by simp, by simp, by simp, by simp⟩ ?_
  rintro d e H' ⟨i, hi, rfl, rfl, e0, e1, e12, e13⟩
  by_cases h3 : i < l.length
  · obtain ⟨x, hx⟩ : ∃ x, l[i]? = some x := ⟨_, List.getElem?_eq_getElem h3⟩
    obtain ⟨b1, o1, cs1, rw1, rfl, hg1, hc1⟩ := i1 (by omega)
    obtain ⟨b2, o2, cs2, rw2, rfl, hg2, hc2⟩ := i2 (by omega)
    have q1 := hc1 i x hx
    have q2 := hc2 i x hx
    have hw : IntKind.i64.wrap ((i : Int) + 1) = (i : Int) + 1 := wi (by omega) (by omega)
    simp [s41_0, e0, e1, e12, e13, h3, addOff, hg1, hg2, q1, q2, hw]
    exact ⟨l.length - (i + 1), by omega, i + 1, by omega, rfl, by omega⟩
  · have h5 : i = l.length := by omega
    subst h5
    simp [s41_0, e12, e13]
end
end Go.Proofs.Ytpcpelbbeofenaa.K
